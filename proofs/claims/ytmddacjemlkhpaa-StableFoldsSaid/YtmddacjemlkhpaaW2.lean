/- Texts E15 to E34 of this proof, in one. -/
import Derived.Test.YtmddacjemlkhpaaW1
/- ENGINE 15: the evaluator is sound: what it answers, every run of the function answers. -/
set_option linter.unusedVariables false
set_option linter.unusedSimpArgs false
namespace Go.Eng
open Go

section
variable {W0 : World} {B : Nat} {M0 : Nat → Option MB} {hp0 : Hp} {w0 : World} {N : Nat} {lv : List Nat} {M M' : Nat → Option MB} {Λ : Nat → Nat} {st : St} {s : RS} {a : Act} {w w' : World} {P : Program} {T : Nat → Option TI}

/-- One operation of a deferred function. -/
theorem oop_step {ops : Array Oper} {o : Oper} {rest : List Nat} {i : Nat} {Q : Exit → Act → List Frame → World → Prop} {cs : List Frame} (ho : ops[i]? = some o) (hw : Region.wanted o (yielded ops a.tmps) = true)
    (h : o.wp P a w (fun a' w' => wpOpsS P ops Q rest a' cs w') (fun e a' w' => Q e a' cs w')) : wpOpsS P ops Q (i :: rest) a cs w := by
  simp only [wpOpsS, ho, hw, if_true]
  unfold Oper.wp at h
  split
  · rename_i w' hr
    rw [hr] at h
    exact h.elim
  · exact h

theorem runOps_textS (hT : ∀ t ti, T t = some ti → mkTI P t = some ti) {call : Nat → List AV → Hp → Option (Res × Hp)} (hC : CallOk P W0 B call) {bx : List Nat} {ops : Array Oper} {N : Nat}
    (hdst : ∀ o ∈ ops.toList, ∀ d, o.dst = some d → d < N) {Q : Exit → Act → List Frame → World → Prop} {r : ROut} {sl : List Slot} {c₀ : Frame} {cs : List Frame} :
    ∀ (l : List Oper) (idx : List Nat), idx.length = l.length → (∀ (j : Nat) i o, idx[j]? = some i → l[j]? = some o → ops[i]? = some o) →
    ∀ (s : RS) (cm : CM) (u : FrameMode) (a : Act) (w : World) (M : Nat → Option MB) (Λ : Nat → Nat), SX W0 B M0 hp0 w0 M Λ s a w → a.tmps.size = N → Keys ops.toList s.env → s.sl = sl → CMR W0 B M0 cm u →
      runOps T call bx ops.toList (l.map fun o => (o, [])) s (some cm) = some r →
      (∀ s' cm', r = .ok s' cm' → ∀ M' Λ' a' w' c2 u', SX W0 B M0 hp0 w0 M' Λ' s' a' w' → a'.tmps.size = N → Keys ops.toList s'.env → s'.sl = sl → cm' = some c2 → CMR W0 B M0 c2 u' → Q .normal a' ({ c₀ with mode := u' } :: cs) w') →
      (∀ v s', r = .panic v s' → ∀ M' Λ' a' w' v' c2 u', SX W0 B M0 hp0 w0 M' Λ' s' a' w' → a'.tmps.size = N → Keys ops.toList s'.env → s'.sl = sl → VR W0 B M' v v' → CMR W0 B M0 c2 u' → Q (.panic [{ v := v', recovered := false }]) a' ({ c₀ with mode := u' } :: cs) w') →
      wpOpsS P ops Q idx a ({ c₀ with mode := u } :: cs) w
  | [], idx, hl, _, s, cm, u, a, w, M, Λ, h, hN, hK, hsl, hu, hr, h1, h2 => by
    have : idx = [] := List.eq_nil_of_length_eq_zero hl
    subst this
    simp only [List.map_nil, runOps, Option.some.injEq] at hr
    exact h1 _ _ hr.symm M Λ a w cm u h hN hK hsl rfl hu
  | o :: l, [], hl, _, _, _, _, _, _, _, _, _, _, _, _, _, _, _, _ => by simp at hl
  | o :: l, i :: idx, hl, hi, s, cm, u, a, w, M, Λ, h, hN, hK, hsl, hu, hr, h1, h2 => by
    have ho := hi 0 i o rfl rfl
    have hmem : o ∈ ops.toList := by
      have := (Array.getElem?_eq_some_iff.1 ho)
      obtain ⟨hlt, e⟩ := this
      rw [← e]; exact Array.getElem_mem_toList hlt
    have ih := fun s cm u a w M Λ h hN hK hsl hu hr h1 h2 => runOps_textS hT hC (bx := bx) hdst (Q := Q) (r := r) (sl := sl) (c₀ := c₀) (cs := cs) l idx (by simpa using hl) (fun j i o g1 g2 => hi (j + 1) i o (by simpa using g1) (by simpa using g2)) s cm u a w M Λ h hN hK hsl hu hr h1 h2
    have hd : ∀ u, o.dst = some u → u < a.tmps.size := fun u hu => by rw [hN]; exact hdst o hmem u hu
    simp only [List.map_cons, runOps] at hr
    split at hr
    · simp at hr
    · rename_i hw
      simp only [wpOpsS, ho]
      rw [if_neg (by rw [want_sound h.sr hw]; simp)]
      exact ih _ _ _ _ w M Λ (h.put (x := .v undefA) (.tup [] [] rfl (fun i a v x y => by simp at x)) hd) (by rw [size_put]; exact hN) (hK.step hmem (EnvStep.put o s s _ rfl rfl)) (by rw [← hsl]; cases o.dst <;> rfl) hu hr h1 h2
    · rename_i hw
      have hwant := want_sound h.sr hw
      split at hr
      · rename_i s' cm' hoop
        simp only [reck, if_true] at hr
        rcases oop_cm hoop with ⟨args, ts, hop, hrec⟩ | ⟨r0, hoop0, hr0⟩
        · -- recover
          simp only [wpOpsS, ho, hwant, if_true]
          have hrun : (execOp a.eval o).run P w = .ok .recover w := by
            simp only [execOp, hop, resolve, Deferred.ofValue, Sem.run_bind, Sem.run_pure, Result.andThen_ok, invoke, builtin]
          rw [hrun]
          simp only
          unfold oRecover at hrec
          split at hrec
          · rename_i x hx
            cases hx
            simp only [Option.some.injEq, ROut.ok.injEq] at hrec
            obtain ⟨rfl, rfl⟩ := hrec
            obtain ⟨v, rfl, hv⟩ := hu
            simp only [recoverD]
            exact ih _ .recd _ _ w M Λ (h.put (x := .v x) (hv.ext h.fr.ext) hd) (by rw [size_put]; exact hN) (hK.step hmem (EnvStep.put o s s _ rfl rfl)) (by rw [← hsl]; cases o.dst <;> rfl) ⟨v, rfl⟩ hr h1 h2
          · rename_i c hne hc
            cases hc
            simp only [Option.some.injEq, ROut.ok.injEq] at hrec
            obtain ⟨rfl, rfl⟩ := hrec
            have hnone : recoverD ({ c₀ with mode := u } :: cs) = none := by
              cases cm with
              | ret => subst hu; rfl
              | pan x => exact absurd rfl (hne x)
              | recd => obtain ⟨v, rfl⟩ := hu; rfl
            rw [hnone]
            exact ih _ _ _ _ w M Λ (h.put (x := .v .nilif) .nilif hd) (by rw [size_put]; exact hN) (hK.step hmem (EnvStep.put o s s _ rfl rfl)) (by rw [← hsl]; cases o.dst <;> rfl) hu hr h1 h2
          · simp at hrec
        · apply oop_step ho hwant
          have henv := oop_env hoop
          cases r0 with
          | panic v s2 => simp at hr0
          | ok s2 cm2 =>
            simp only [ROut.ok.injEq] at hr0
            obtain ⟨rfl, rfl⟩ := hr0
            refine oop_sound hT hC h hd hoop0 (fun s2 e M' Λ' a' w' g1 g2 => ?_) (fun v s2 e => by cases e)
            cases e
            exact ih _ _ _ _ _ M' Λ' g1 (g2.trans hN) (hK.step hmem henv) (henv.1.trans hsl) hu hr h1 h2
      · rename_i v s' hoop
        simp only [Option.some.injEq] at hr
        obtain ⟨e1, e2⟩ := oop_panic_env hoop
        rcases oop_cm hoop with ⟨args, ts, hop, hrec⟩ | ⟨r0, hoop0, hr0⟩
        · exfalso
          unfold oRecover at hrec
          repeat' split at hrec
          all_goals simp at hrec
        · apply oop_step ho hwant
          cases r0 with
          | ok s2 cm2 => simp at hr0
          | panic v2 s2 =>
            simp only [ROut.panic.injEq] at hr0
            obtain ⟨rfl, rfl⟩ := hr0
            refine oop_sound hT hC h hd hoop0 (fun s2 e => by cases e) (fun v2 s2 e M' Λ' w' v' g1 g2 => ?_)
            cases e
            exact h2 _ _ hr.symm M' Λ' a w' v' cm u g1 hN (by rw [e2]; exact hK) (e1.trans hsl) g2 hu
      · simp at hr
end

def SPost (W0 : World) (B : Nat) (M0 : Nat → Option MB) (hp0 : Hp) (w0 : World) (N : Nat) (lv : List Nat) (c₀ : Frame) (cs : List Frame) (e : AExit) (st : St) (cm : CM) (e' : Exit) (a : Act) (cs' : List Frame) (w : World) : Prop :=
  ∃ M Λ u', SS W0 B M0 hp0 w0 N lv M Λ st a w ∧ ExitR W0 B M e e' ∧ cs' = { c₀ with mode := u' } :: cs ∧ ((∀ v, e ≠ .panic v) → CMR W0 B M0 cm u')

section
variable {W0 : World} {B : Nat} {M0 : Nat → Option MB} {hp0 : Hp} {w0 : World} {N : Nat} {lv : List Nat} {M M' : Nat → Option MB} {Λ : Nat → Nat} {st : St} {s : RS} {a : Act} {w w' : World} {P : Program} {T : Nat → Option TI}

theorem region_textS (hT : ∀ t ti, T t = some ti → mkTI P t = some ti) {call : Nat → List AV → Hp → Option (Res × Hp)} (hC : CallOk P W0 B call) {bx : List Nat} {h' : RH} {id : Nat} {ops : Array Oper} {c₀ : Frame} {cs : List Frame}
    (ho : outOk lv h' N ops.toList = true) (h : SS W0 B M0 hp0 w0 N lv M Λ st a w) {cm cm' : CM} {u : FrameMode} (hu : CMR W0 B M0 cm u) {e : AExit} {st' : St} (hr : runRegion T call bx h' ops false st (some cm) = some (e, st', some cm')) :
    (Code.region id ops false).wpS P (SPost W0 B M0 hp0 w0 N lv c₀ cs e st' cm') a ({ c₀ with mode := u } :: cs) w := by
  apply wpS_region
  unfold runRegion at hr
  simp only [Bool.false_eq_true, if_false] at hr
  have hdst : ∀ o ∈ ops.toList, ∀ d, o.dst = some d → d < N := by
    intro o hm d hd
    simp only [outOk, Bool.and_eq_true, List.all_eq_true] at ho
    have := ho.1 o hm
    rw [hd] at this
    simp only [Bool.and_eq_true] at this
    exact Nat.le_of_ble_eq_true this.1
  have hidx : ∀ (j : Nat) i o, (List.range ops.size)[j]? = some i → ops.toList[j]? = some o → ops[i]? = some o := by
    intro j i o h1 h2
    have hj : j < ops.size := by have := (List.getElem?_eq_some_iff.1 h2).1; simpa using this
    rw [List.getElem?_range hj] at h1
    cases h1
    simpa using h2
  split at hr
  · rename_i r cm2 hrun
    simp only [Option.some.injEq, Prod.mk.injEq] at hr
    obtain ⟨rfl, rfl, rfl⟩ := hr
    refine runOps_textS hT hC (bx := bx) (N := N) hdst (r := .ok r (some cm')) (sl := st.sl) ops.toList (List.range ops.size) (by simp) hidx _ cm u a w M Λ h.sx h.n (fun t x hx => by simp [lk] at hx) rfl hu hrun
      (fun s' cm2 e M' Λ' a' w' c2 u' g1 g2 g3 g4 g5 g6 => ?_) (fun v s' e => by cases e)
    cases e
    cases g5
    exact ⟨M', Λ', u', by have := g1.out g2 g3 ho (by rw [g4]; exact h.lv); rw [g4] at this; exact this, trivial, rfl, fun _ => g6⟩
  · rename_i v r hrun
    simp only [Option.some.injEq, Prod.mk.injEq] at hr
    obtain ⟨rfl, rfl, rfl⟩ := hr
    refine runOps_textS hT hC (bx := bx) (N := N) hdst (r := .panic v r) (sl := st.sl) ops.toList (List.range ops.size) (by simp) hidx _ cm u a w M Λ h.sx h.n (fun t x hx => by simp [lk] at hx) rfl hu hrun
      (fun s' cm2 e => by cases e) (fun v s' e M' Λ' a' w' v' c2 u' g1 g2 g3 g4 g5 g6 => ?_)
    cases e
    exact ⟨M', Λ', u', by have := g1.outPanic g2 g3 ho (by rw [g4]; exact h.lv); rw [g4] at this; exact this, ⟨v', rfl, g5⟩, rfl, fun hp => absurd rfl (hp _)⟩
  · simp at hr

theorem execS_sound (hT : ∀ t ti, T t = some ti → mkTI P t = some ti) {call : Nat → List AV → Hp → Option (Res × Hp)} (hC : CallOk P W0 B call) {h : FH} {D : RH → Array Oper → Bool} (hD : DrawsOk P T W0 B h.bx D) (k : Nat) {c₀ : Frame} {cs : List Frame} :
    ∀ (c : Code) {st st' : St} {e : AExit} {cm cm' : CM} {u : FrameMode} {M : Nat → Option MB} {Λ : Nat → Nat} {a : Act} {w : World}, codeOk D lv h N c = true → execS T call h k c st cm = some (e, st', cm') → SS W0 B M0 hp0 w0 N lv M Λ st a w → CMR W0 B M0 cm u →
      c.wpS P (SPost W0 B M0 hp0 w0 N lv c₀ cs e st' cm') a ({ c₀ with mode := u } :: cs) w := by
  have base : ∀ (c : Code) {st st' : St} {e : AExit} {cm cm' : CM} {u : FrameMode} {M : Nat → Option MB} {Λ : Nat → Nat} {a : Act} {w : World}, codeOk D lv h N c = true → (match execC T call h k c st with
        | some (e, s') => some (e, s', cm)
        | none => none) = some (e, st', cm') → SS W0 B M0 hp0 w0 N lv M Λ st a w → CMR W0 B M0 cm u →
      c.wpS P (SPost W0 B M0 hp0 w0 N lv c₀ cs e st' cm') a ({ c₀ with mode := u } :: cs) w := by
    intro c st st' e cm cm' u M Λ a w hk hx hs hu
    split at hx
    · rename_i e1 s1 h1
      simp only [Option.some.injEq, Prod.mk.injEq] at hx
      obtain ⟨rfl, rfl, rfl⟩ := hx
      refine wpS_of_wp (wp_mono (exec_sound hT hC hD k c hk h1 hs) fun e1 a1 w1 hq => ?_)
      obtain ⟨M1, Λ1, g1, g2⟩ := hq
      exact ⟨M1, Λ1, u, g1, g2, rfl, fun _ => hu⟩
    · simp at hx
  intro c
  induction c with
  | seq x y ihx ihy =>
    intro st st' e cm cm' u M Λ a w hk hx hs hu
    simp only [codeOk, Bool.and_eq_true] at hk
    simp only [execS] at hx
    apply wpS_seq
    split at hx
    · rename_i s1 cm1 h1
      intro b kk hb hr
      obtain ⟨e1, a1, cs1, w1, hq, harr⟩ := ihx hk.1 h1 hs hu b kk hb hr
      refine ⟨e1, a1, cs1, w1, ?_, harr⟩
      obtain ⟨M1, Λ1, u1, g1, g2, rfl, g4⟩ := hq
      cases e1 with
      | normal => exact ihy hk.2 hx g1 (g4 (by simp))
      | _ => exact g2.elim
    · rename_i r hne
      intro b kk hb hr
      obtain ⟨e1, a1, cs1, w1, hq, harr⟩ := ihx hk.1 hx hs hu b kk hb hr
      refine ⟨e1, a1, cs1, w1, ?_, harr⟩
      have hq' := hq
      obtain ⟨M1, Λ1, u1, g1, g2, g3, g4⟩ := hq
      cases e1 with
      | normal =>
        cases e with
        | normal => exact absurd hx (hne st' cm')
        | _ => exact g2.elim
      | _ => exact hq'
  | cond c x y ihx ihy =>
    intro st st' e cm cm' u M Λ a w hk hx hs hu
    simp only [codeOk, Bool.and_eq_true] at hk
    simp only [execS] at hx
    split at hx
    · rename_i b hb
      refine wpS_cond (slotS_sound hs hb) ?_
      cases b with
      | true => exact ihx hk.1 (by simpa using hx) hs hu
      | false => exact ihy hk.2 (by simpa using hx) hs hu
    · simp at hx
  | region id ops draw =>
    intro st st' e cm cm' u M Λ a w hk hx hs hu
    cases draw with
    | false =>
      simp only [execS] at hx
      simp only [codeOk, Bool.and_eq_true] at hk
      split at hx
      · rename_i e1 s1 cm1 hr
        simp only [Option.some.injEq, Prod.mk.injEq] at hx
        obtain ⟨rfl, rfl, rfl⟩ := hx
        exact region_textS hT hC hk.1 hs hu hr
      · simp at hx
    | true => exact base _ hk hx hs hu
  | _ => intro st st' e cm cm' u M Λ a w hk hx hs hu; exact base _ hk hx hs hu

/-! #### Functions -/
def fnOk (D : RH → Array Oper → Bool) (h : FH) (fn : Func) : Bool :=
  !(fn.name == "runtime.NumGoroutine") && (match fn.body with | some c => codeOk D h.lv h fn.ntmps c | none => false) && (Nat.ble (arity fn) fn.ntmps && (List.range (arity fn)).all fun t => mem t h.lv)
structure FOk (P : Program) (D : List Nat → RH → Array Oper → Bool) (F : Nat → Option Func) (H : Nat → FH) : Prop where
  fn : ∀ f fn, F f = some fn → P.funcs[f]? = some fn
  ok : ∀ f fn, F f = some fn → fnOk (D (H f).bx) (H f) fn = true

theorem st0_sound {fn : Func} {args : List AV} {vs : List Value} {hp : Hp} (hi : Inv W0 B M hp w) (hv : VRs W0 B M args vs) (hl : Nat.ble (arity fn) fn.ntmps = true) (hn : args.length = arity fn) (hlv : ((List.range (arity fn)).all fun t => mem t lv) = true) :
    SS W0 B M hp w fn.ntmps lv M (fun _ => 0) (st0 fn args hp) { tmps := vs.toArray ++ Array.replicate (fn.ntmps - vs.toArray.size) undef, defers := [] } w := by
  have hle := Nat.le_of_ble_eq_true hl
  have hlen := hv.1
  have get : ∀ (t : Nat) y, (st0 fn args hp).sl[t]? = some y → (∃ x, args[t]? = some x ∧ y = .v x) ∨ y = .none := by
    intro t y hy
    simp only [st0] at hy
    rw [List.getElem?_append] at hy
    split at hy
    · simp only [List.getElem?_map, Option.map_eq_some_iff] at hy
      obtain ⟨x, hx, rfl⟩ := hy
      exact .inl ⟨x, hx, rfl⟩
    · rw [List.getElem?_replicate] at hy
      split at hy
      · cases hy; exact .inr rfl
      · cases hy
  refine ⟨⟨⟨hi, ?_, fun t c hc => by simp [st0, lkc] at hc, fun t u c d hc => by simp [st0, lkc] at hc, fun t c hc => by simp [st0, lkc] at hc, ?_, ?_⟩, .refl, fun t c hc => by simp [st0, lkc] at hc⟩, ?_, ?_⟩
  · intro t x hx
    simp only [RS.look, lk] at hx
    rcases get t x hx with ⟨y, h1, rfl⟩ | rfl
    · have ht : t < args.length := (List.getElem?_eq_some_iff.1 h1).1
      have ht2 : t < vs.length := by omega
      have : (vs.toArray ++ Array.replicate (fn.ntmps - vs.toArray.size) undef).getD t undef = vs[t] := by
        rw [Array.getD_eq_getD_getElem?, Array.getElem?_append_left (by simpa using ht2)]
        simp [ht2]
      rw [this]
      exact hv.2 t y vs[t] h1 (by simp [ht2])
    · trivial
  · intro i u off hi2
    rcases get i _ hi2 with ⟨y, _, h1⟩ | h1 <;> cases h1
  · exact trivial
  · simp only [Array.size_append, List.size_toArray, Array.size_replicate]
    omega
  · intro t y hy hm
    rcases get t y hy with ⟨x, h1, rfl⟩ | rfl
    · have ht : t < args.length := (List.getElem?_eq_some_iff.1 h1).1
      rw [List.all_eq_true] at hlv
      have := hlv t (by simp; omega)
      rw [hm] at this; cases this
    · rfl

theorem FOk.body {D : List Nat → RH → Array Oper → Bool} {F : Nat → Option Func} {H : Nat → FH} (hF : FOk P D F H) {f : Nat} {fn : Func} (h : F f = some fn) :
    (fn.name == "runtime.NumGoroutine") = false ∧ (∃ c, fn.body = some c ∧ codeOk (D (H f).bx) (H f).lv (H f) fn.ntmps c = true) ∧ Nat.ble (arity fn) fn.ntmps = true ∧ ((List.range (arity fn)).all fun t => mem t (H f).lv) = true := by
  have := hF.ok f fn h
  simp only [fnOk, Bool.and_eq_true, Bool.not_eq_eq_eq_not, Bool.not_true] at this
  obtain ⟨⟨h1, h2⟩, h3, h4⟩ := this
  refine ⟨h1, ?_, h3, h4⟩
  cases hb : fn.body with
  | none => rw [hb] at h2; cases h2
  | some c => rw [hb] at h2; exact ⟨c, rfl, h2⟩

theorem callD_sound (hT : ∀ t ti, T t = some ti → mkTI P t = some ti) {D : List Nat → RH → Array Oper → Bool} {F : Nat → Option Func} {H : Nat → FH} (hF : FOk P D F H) (hD : ∀ bx, DrawsOk P T W0 B bx (D bx))
    {call : Nat → List AV → Hp → Option (Res × Hp)} (hC : CallOk P W0 B call) {k f : Nat} {args : List AV} {cm cm' : CM} {hp hp' : Hp} (hx : callD T F H call k f args cm hp = some (cm', hp')) {vs : List Value}
    (hi : Inv W0 B M hp w) (hv : VRs W0 B M args vs) {u : FrameMode} (hu : CMR W0 B M cm u) :
    (∃ fn, P.funcs[f]? = some fn ∧ (fn.name == "runtime.NumGoroutine") = false ∧ fn.body.isNone = false) ∧
    CallsD P f vs.toArray u w fun e u' w' => ∃ v M', e = .returned v ∧ Fr M hp w M' hp' w' ∧ Inv W0 B M' hp' w' ∧ CMR W0 B M' cm' u' := by
  unfold callD at hx
  split at hx
  · rename_i fn hfn
    obtain ⟨hn, ⟨c, hc, hok⟩, har, hlv⟩ := hF.body hfn
    cases hlen : Nat.beq args.length (arity fn) with
    | false => simp [hlen] at hx
    | true =>
      simp only [hlen, Bool.not_true, cond_false, hc] at hx
      have hlen' := Nat.eq_of_beq_eq_true hlen
      refine ⟨⟨fn, hF.fn f fn hfn, hn, by rw [hc]; rfl⟩, ?_⟩
      have hs0 := st0_sound (lv := (H f).lv) hi hv har hlen' hlv
      refine callsD_of_wpS (hF.fn f fn hfn) hc fun c₀ cs hc₀ => ?_
      have hc₀' : c₀ = { c₀ with mode := u } := by subst hc₀; rfl
      have key : ∀ {e s}, execS T call (H f) k c (st0 fn args hp) cm = some (e, s, cm') → (e = .normal ∨ e = .ret) → s.df.isEmpty = true → (∃ l, resV T s fn.results.toList = some l) → s.hp = hp' →
          c.wpS P (bodyPostS P fn c₀ cs fun e u' w' => ∃ v M', e = .returned v ∧ Fr M hp w M' hp' w' ∧ Inv W0 B M' hp' w' ∧ CMR W0 B M' cm' u') { tmps := vs.toArray ++ Array.replicate (fn.ntmps - vs.toArray.size) undef, defers := [] } (c₀ :: cs) w := by
        intro e s hex he hdf hl hhp
        have := execS_sound hT hC (hD (H f).bx) k (c₀ := c₀) (cs := cs) c hok hex hs0 hu
        rw [← hc₀'] at this
        intro b kk hb hr
        obtain ⟨e1, a1, cs1, w1, hq, harr⟩ := this b kk hb hr
        refine ⟨e1, a1, cs1, w1, ?_, harr⟩
        obtain ⟨M1, Λ1, u1, g1, g2, rfl, g4⟩ := hq
        have hdf' : a1.defers = [] := by
          have hd := g1.sx.sr.df
          have : s.df = [] := by simpa using hdf
          simp only [this] at hd
          cases hdf2 : a1.defers with
          | nil => rfl
          | cons x l => rw [hdf2] at hd; exact hd.elim
        obtain ⟨l, hl⟩ := hl
        obtain ⟨v, r1, r2⟩ := results_sound hT g1 hl
        subst hhp
        have hfin : a1.defers = [] ∧ ∃ u', ({ c₀ with mode := u1 } :: cs : List Frame) = { c₀ with mode := u' } :: cs ∧ ∃ v, (results fn a1.tmps).run P w1 = .ok v w1 ∧ (∃ v2 M', Ending.returned v = .returned v2 ∧ Fr M hp w M' s.hp w1 ∧ Inv W0 B M' s.hp w1 ∧ CMR W0 B M' cm' u') :=
          ⟨hdf', u1, rfl, v, r1, v, M1, rfl, g1.sx.fr, g1.sx.sr.inv, (g4 (by rcases he with rfl | rfl <;> simp)).ext g1.sx.fr.ext⟩
        rcases he with rfl | rfl
        · cases e1 with
          | normal => exact hfin
          | _ => exact g2.elim
        · cases e1 with
          | ret => exact hfin
          | _ => exact g2.elim
      split at hx
      · rename_i s cm2 hex
        split at hx
        · split at hx
          · rename_i l hl
            simp only [Option.some.injEq, Prod.mk.injEq] at hx
            obtain ⟨rfl, rfl⟩ := hx
            exact key hex (.inl rfl) (by assumption) ⟨l, hl⟩ rfl
          · simp at hx
        · simp at hx
      · rename_i s cm2 hex
        split at hx
        · split at hx
          · rename_i l hl
            simp only [Option.some.injEq, Prod.mk.injEq] at hx
            obtain ⟨rfl, rfl⟩ := hx
            exact key hex (.inr rfl) (by assumption) ⟨l, hl⟩ rfl
          · simp at hx
        · simp at hx
      · simp at hx
  · simp at hx
end

section
variable {W0 : World} {B : Nat} {M0 : Nat → Option MB} {hp0 : Hp} {w0 : World} {N : Nat} {lv : List Nat} {M M' : Nat → Option MB} {Λ : Nat → Nat} {st : St} {s : RS} {a : Act} {w w' : World} {P : Program} {T : Nat → Option TI}

/-- The way out of a function. -/
theorem leave_sound (hT : ∀ t ti, T t = some ti → mkTI P t = some ti) {D : List Nat → RH → Array Oper → Bool} {F : Nat → Option Func} {H : Nat → FH} (hF : FOk P D F H) (hD : ∀ bx, DrawsOk P T W0 B bx (D bx))
    {call : Nat → List AV → Hp → Option (Res × Hp)} (hC : CallOk P W0 B call) {k : Nat} {fn : Func} {s : St} {r : Res} {hp' : Hp} :
    ∀ (ds : List (Nat × List AV)) (dds : List Deferred) (cm : CM) (hp : Hp) (M : Nat → Option MB) (w : World) (u : FrameMode), DfsR W0 B M ds dds → SS W0 B M0 hp0 w0 N lv M Λ { s with hp := hp } a w → CMR W0 B M cm u → cm ≠ .recd →
      leave T (callD T F H call k) fn s ds cm hp = some (r, hp') → Leaves P fn a.tmps (fun e w' => ∃ M', Fr M0 hp0 w0 M' hp' w' ∧ Inv W0 B M' hp' w' ∧ RetR W0 B M' r e) dds u w
  | [], dds, cm, hp, M, w, u, hd, hs, hu, hne, hx => by
    have : dds = [] := by cases dds with
      | nil => rfl
      | cons x l => exact hd.elim
    subst this
    cases cm with
    | pan v =>
      simp only [leave, Option.some.injEq, Prod.mk.injEq] at hx
      obtain ⟨rfl, rfl⟩ := hx
      obtain ⟨v', rfl, hv⟩ := hu
      exact ⟨M, hs.sx.fr, hs.sx.sr.inv, v', rfl, hv⟩
    | recd => exact absurd rfl hne
    | ret =>
      simp only [CMR] at hu
      subst hu
      simp only [leave] at hx
      cases hl : resV T { s with hp := hp } fn.results.toList with
      | none => simp [hl] at hx
      | some l =>
        obtain ⟨v, r1, r2⟩ := results_sound hT hs hl
        rw [hl] at hx
        refine ⟨v, r1, M, ?_⟩
        cases l with
        | nil =>
          simp only [Option.some.injEq, Prod.mk.injEq] at hx
          obtain ⟨rfl, rfl⟩ := hx
          exact ⟨hs.sx.fr, hs.sx.sr.inv, r2⟩
        | cons x l =>
          cases l with
          | nil =>
            simp only [Option.some.injEq, Prod.mk.injEq] at hx
            obtain ⟨rfl, rfl⟩ := hx
            exact ⟨hs.sx.fr, hs.sx.sr.inv, r2⟩
          | cons y l =>
            simp only [Option.some.injEq, Prod.mk.injEq] at hx
            obtain ⟨rfl, rfl⟩ := hx
            exact ⟨hs.sx.fr, hs.sx.sr.inv, r2⟩
  | (f, args) :: ds, dds, cm, hp, M, w, u, hd, hs, hu, hne, hx => by
    cases dds with
    | nil => exact hd.elim
    | cons d dds =>
      obtain ⟨⟨cap, args', rfl, hv⟩, hds⟩ := hd
      simp only [leave] at hx
      split at hx
      · rename_i cm' hp1 hc
        obtain ⟨⟨fn', f1, f2, f3⟩, hcalls⟩ := callD_sound hT hF hD hC hc hs.sx.sr.inv hv hu
        have hrun : u ≠ .run := by
          cases cm with
          | ret => simp only [CMR] at hu; subst hu; simp
          | pan x => obtain ⟨v, rfl, _⟩ := hu; simp
          | recd => obtain ⟨v, rfl⟩ := hu; simp
        refine leaves_cons (f := f) (args := (args' ++ cap).toArray) hrun ?_ (hcalls.mono fun e u' w' hq => ?_)
        · simp only [invoke, callFunc_ok f1 f2 f3]
          congr 2
          simp
        · obtain ⟨v, M', rfl, q1, q2, q3⟩ := hq
          have go := fun cm2 u2 hu2 hne2 (hx2 : leave T (callD T F H call k) fn s ds cm2 hp1 = some (r, hp')) => leave_sound (s := s) hT hF hD hC ds dds cm2 hp1 M' w' u2 (hds.ext q1.ext) (hs.call q1 q2 : SS W0 B M0 hp0 w0 N lv M' Λ { s with hp := hp1 } a w') hu2 hne2 hx2
          cases cm' with
          | ret => exact go .ret _ (by simp only [CMR] at q3 ⊢; subst q3; rfl) (by simp) hx
          | pan x => exact go (.pan x) _ (by obtain ⟨v, rfl, hv⟩ := q3; exact ⟨v, rfl, hv⟩) (by simp) hx
          | recd => exact go .ret _ (by obtain ⟨v, rfl⟩ := q3; rfl) (by simp) hx
      · simp at hx

/-- **The evaluator is sound.** -/
theorem evalF_sound (hT : ∀ t ti, T t = some ti → mkTI P t = some ti) {D : List Nat → RH → Array Oper → Bool} {F : Nat → Option Func} {H : Nat → FH} (hF : FOk P D F H) (hD : ∀ bx, DrawsOk P T W0 B bx (D bx)) :
    ∀ k, CallOk P W0 B (evalF T F H k)
  | 0 => by intro f args hp r hp' hx; simp [evalF] at hx
  | k + 1 => by
    have ih := evalF_sound hT hF hD k
    intro f args hp r hp' hx
    simp only [evalF] at hx
    split at hx
    · rename_i fn hfn
      obtain ⟨hn, ⟨c, hc, hok⟩, har, hlv⟩ := hF.body hfn
      cases hlen : Nat.beq args.length (arity fn) with
      | false => simp [hlen] at hx
      | true =>
        simp only [hlen, Bool.not_true, cond_false, hc] at hx
        have hlen' := Nat.eq_of_beq_eq_true hlen
        refine ⟨⟨fn, hF.fn f fn hfn, hn, by rw [hc]; rfl⟩, fun M w vs hi hv => ?_⟩
        have hs0 := st0_sound (lv := (H f).lv) hi hv har hlen' hlv
        refine calls_of_wp_defers (hF.fn f fn hfn) hc ?_
        cases hex : execC T (evalF T F H k) (H f) k c (st0 fn args hp) with
        | none => simp [hex] at hx
        | some es =>
          obtain ⟨e, s⟩ := es
          rw [hex] at hx
          refine wp_mono (exec_sound hT ih (hD (H f).bx) k c hok hex hs0) fun e1 a1 w1 hq => ?_
          obtain ⟨M1, Λ1, g1, g2⟩ := hq
          cases e with
          | normal =>
            cases e1 with
            | normal => exact leave_sound hT hF hD ih s.df a1.defers .ret s.hp M1 w1 .returning g1.sx.sr.df g1 rfl (by simp) hx
            | _ => exact g2.elim
          | ret =>
            cases e1 with
            | ret => exact leave_sound hT hF hD ih s.df a1.defers .ret s.hp M1 w1 .returning g1.sx.sr.df g1 rfl (by simp) hx
            | _ => exact g2.elim
          | panic v =>
            cases e1 with
            | panic chain => exact leave_sound hT hF hD ih s.df a1.defers (.pan v) s.hp M1 w1 (.panicking chain) g1.sx.sr.df g1 (by obtain ⟨v', rfl, h⟩ := g2; exact ⟨v', rfl, h⟩) (by simp) hx
            | _ => exact g2.elim
          | exit id => simp at hx
    · simp at hx
end
end Go.Eng

/- ENGINE 16: an operation looks at its operands and at memory, and at nothing else. -/
set_option linter.unusedVariables false
set_option linter.unusedSimpArgs false
namespace Go.Eng
open Go

section
variable {T : Nat → Option TI} {s s' s1 s1' : RS} {d : Option Nat} {L : Bool}

theorem val_congr {x : Operand} (h : s.slot x = s'.slot x) : s.val x = s'.val x := by simp only [RS.val, h]
theorem vals_congr : ∀ {l : List Operand}, (∀ x ∈ l, s.slot x = s'.slot x) → valsV s l = valsV s' l
  | [], _ => rfl
  | x :: l, h => by
    simp only [valsV]
    rw [val_congr (h x (by simp)), vals_congr (l := l) fun y hy => h y (by simp [hy])]
theorem pairs_congr : ∀ {l : List (Nat × Operand)}, (∀ x ∈ l, s.slot x.2 = s'.slot x.2) → pairsV s l = pairsV s' l
  | [], _ => rfl
  | (i, x) :: l, h => by
    simp only [pairsV]
    rw [val_congr (h (i, x) (by simp)), pairs_congr (l := l) fun y hy => h y (by simp [hy])]
theorem opt_congr {x : Option Operand} (h : ∀ y, x = some y → s.slot y = s'.slot y) : optV s x = optV s' x := by
  cases x with
  | none => rfl
  | some y => simp only [optV, val_congr (h y rfl)]

theorem rop_congr {op : Op} (h : ∀ x ∈ op.operands.toList, s.slot x = s'.slot x)
    (hl : ∀ t a, op = .load t a → ∀ y n, s.slot a = some y → s.rd y n = s'.rd y n) : rop T s op = rop T s' op := by
  cases op <;> (try simp only [rop])
  case move x => simp only [rMove, val_congr (h x (by simp [Op.operands]))]
  case assign x => simp only [rMove, val_congr (h x (by simp [Op.operands]))]
  case pick c a b => simp only [rPick, val_congr (h c (by simp [Op.operands])), val_congr (h a (by simp [Op.operands])), val_congr (h b (by simp [Op.operands]))]
  case load t a =>
    have e := h a (by simp [Op.operands])
    simp only [rLoad]
    cases hs : s.slot a with
    | none => rw [hs] at e; rw [← e]; cases T t <;> rfl
    | some y =>
      rw [hs] at e
      rw [← e]
      cases T t with
      | none => rfl
      | some ti => simp only [hl t a rfl y _ hs]
  case nilCheck x => simp only [rNil, h x (by simp [Op.operands])]
  case binOp op t x y u => simp only [rBin, val_congr (h x (by simp [Op.operands])), val_congr (h y (by simp [Op.operands]))]
  case unOp op t x => simp only [rUn, val_congr (h x (by simp [Op.operands]))]
  case convert a b x => simp only [rConv, val_congr (h x (by simp [Op.operands]))]
  case fieldAddr t x f => simp only [rFieldAddr, h x (by simp [Op.operands])]
  case field t x f => simp only [rField, val_congr (h x (by simp [Op.operands]))]
  case indexAddr t x i => simp only [rIndexAddr, h x (by simp [Op.operands]), val_congr (h i (by simp [Op.operands]))]
  case index t x i => simp only [rIndex, val_congr (h x (by simp [Op.operands])), val_congr (h i (by simp [Op.operands]))]
  case slice t x lo hi mx =>
    simp only [rSlice, val_congr (h x (by simp [Op.operands]))]
    rw [opt_congr (x := lo) fun y hy => h y (by simp [Op.operands, hy]), opt_congr (x := hi) fun y hy => h y (by simp [Op.operands, hy]), opt_congr (x := mx) fun y hy => h y (by simp [Op.operands, hy])]
  case extract x i => simp only [rExtract, val_congr (h x (by simp [Op.operands]))]
  case makeInterface t x => simp only [rMakeI, val_congr (h x (by simp [Op.operands]))]
  case makeFunc f first cap =>
    simp only [rMakeF]
    cases f with
    | func f =>
      simp only
      rw [vals_congr (l := first.toList) fun y hy => h y (by simp [Op.operands] at hy ⊢; exact .inl hy), vals_congr (l := cap.toList) fun y hy => h y (by simp [Op.operands] at hy ⊢; exact .inr hy)]
    | _ => rfl
  case build t ps =>
    simp only [rBuild]
    rw [pairs_congr (l := ps.toList) fun y hy => h y.2 (by simp only [Op.operands, List.mem_map]; exact ⟨y, hy, rfl⟩)]
  case typeAssert x u t ok => simp only [rAssert, val_congr (h x (by simp [Op.operands]))]
  case call c =>
    have ha : ∀ x ∈ c.args.toList, s.slot x = s'.slot x := fun x hx => h x (by simp only [Op.operands, Call.operands]; simp at hx ⊢; simp [hx])
    simp only [rCall]
    cases c.callee with
    | builtin b =>
      simp only [rBuiltin]
      have hlen : rLen T s c.args c.argTypes = rLen T s' c.args c.argTypes := by
        simp only [rLen]
        cases hl : c.args.toList with
        | nil => rfl
        | cons x l =>
          cases l with
          | cons y l => rfl
          | nil =>
            cases c.argTypes.toList with
            | nil => rfl
            | cons t ts => cases ts <;> first | rfl | simp only [val_congr (ha x (by simp [hl]))]
      have hmm : ∀ b, rMM s b c.args = rMM s' b c.args := fun b => by simp only [rMM, vals_congr ha]
      cases b <;> simp only [hlen, hmm]
    | _ => rfl

/-- A reading operation yields the address of a frame's own variable only from such an address. -/
theorem rop_lr {op : Op} {u off : Nat} (h : rop T s op = some (.lr u off)) : ∃ x ∈ op.operands.toList, ∃ off', s.slot x = some (.lr u off') := by
  have hadd : ∀ {a : Slot} {n : Nat}, addA a n = some (.lr u off) → ∃ off', a = .lr u off' := by
    intro a n ha
    unfold addA at ha
    split at ha
    · simp only [Option.some.injEq, Slot.lr.injEq] at ha
      exact ⟨_, by rw [ha.1]⟩
    · simp at ha
    · simp at ha
    · simp at ha
  cases op <;> first | (simp [rop] at h; done) | simp only [rop] at h
  case move x => simp [rMove] at h
  case assign x => simp [rMove] at h
  case pick c a b =>
    unfold rPick at h
    split at h <;> simp at h
  case load t a =>
    unfold rLoad at h
    repeat' split at h
    all_goals simp at h
  case nilCheck x =>
    unfold rNil at h
    split at h
    · rename_i a ha
      cases hi : isAddr a with
      | false => simp [hi] at h
      | true =>
        simp only [hi, cond_true, Option.some.injEq] at h
        subst h
        exact ⟨x, by simp [Op.operands], off, ha⟩
    · simp at h
  case binOp op t x y z =>
    unfold rBin at h
    split at h <;> simp at h
  case unOp op t x =>
    unfold rUn at h
    split at h <;> simp at h
  case convert a b x =>
    unfold rConv at h
    split at h <;> simp at h
  case fieldAddr t x f =>
    unfold rFieldAddr at h
    repeat' split at h
    all_goals try simp only [Bool.cond_eq_ite] at h
    all_goals repeat' split at h
    all_goals try (simp at h; done)
    obtain ⟨off', rfl⟩ := hadd h
    exact ⟨x, by simp [Op.operands], off', by assumption⟩
  case field t x f =>
    unfold rField partA at h
    simp only [Bool.cond_eq_ite] at h
    repeat' split at h
    all_goals simp at h
  case indexAddr t x i =>
    unfold rIndexAddr at h
    split at h
    · rename_i a k n ha hi
      unfold idxF at h
      simp only [Bool.cond_eq_ite] at h
      repeat' split at h
      all_goals try (simp at h; done)
      obtain ⟨off', rfl⟩ := hadd h
      exact ⟨x, by simp [Op.operands], off', ha⟩
    · simp at h
  case index t x i =>
    unfold rIndex partA at h
    simp only [Bool.cond_eq_ite] at h
    repeat' split at h
    all_goals simp at h
  case slice t x lo hi mx =>
    unfold rSlice at h
    simp only [Bool.cond_eq_ite] at h
    repeat' split at h
    all_goals simp at h
  case extract x i =>
    unfold rExtract at h
    split at h <;> simp at h
  case makeInterface t x =>
    unfold rMakeI at h
    repeat' split at h
    all_goals simp at h
  case makeFunc f first cap =>
    unfold rMakeF at h
    repeat' split at h
    all_goals simp at h
  case build t ps =>
    unfold rBuild at h
    split at h <;> simp at h
  case typeAssert x z t ok =>
    unfold rAssert at h
    simp only [Bool.cond_eq_ite] at h
    repeat' split at h
    all_goals simp at h
  case call c =>
    unfold rCall rBuiltin rLen rMM at h
    repeat' split at h
    all_goals simp at h

/-! #### Two states that agree apart from a name -/
def loose (e : Nat) (s : RS) : Prop := ∀ t off, t ≠ e → s.look t ≠ some (.lr e off)
structure Ag (d : Option Nat) (L : Bool) (s s' : RS) : Prop where
  sl : s.sl = s'.sl
  hp : s.hp = s'.hp
  df : s.df = s'.df
  env : ∀ t, d ≠ some t → lk s.env t = lk s'.env t
  lo : ∀ u, (L = true ∧ d = some u) ∨ lkc s.lo u = lkc s'.lo u
  ls : L = true → ∀ e, d = some e → loose e s
  st : ∀ u, stale u s.env = false → stale u s'.env = false

theorem Ag.look (h : Ag d L s s') {t : Nat} (ht : d ≠ some t) : s.look t = s'.look t := by simp only [RS.look, h.env t ht, h.sl]
theorem Ag.slot (h : Ag d L s s') {x : Operand} (hx : ∀ t, x = .tmp t → d ≠ some t) : s.slot x = s'.slot x := by
  cases x with
  | tmp t => exact h.look (hx t rfl)
  | _ => rfl
/-- No operand leads to the name's variable. -/
theorem Ag.lr (h : Ag d L s s') {x : Operand} (hx : ∀ t, x = .tmp t → d ≠ some t) {u off : Nat} (hy : s.slot x = some (.lr u off)) (hL : L = true) : d ≠ some u := by
  intro hd
  cases x with
  | tmp t =>
    by_cases ht : t = u
    · subst ht; exact hx t rfl hd
    · exact h.ls hL u hd t off ht hy
  | const v => simp only [RS.slot, Option.map_eq_some_iff, reduceCtorEq, and_false, exists_false] at hy
  | func f => simp [RS.slot] at hy
  | global g => simp [RS.slot] at hy
theorem Ag.lo' (h : Ag d L s s') {x : Operand} (hx : ∀ t, x = .tmp t → d ≠ some t) {u off : Nat} (hy : s.slot x = some (.lr u off)) : lkc s.lo u = lkc s'.lo u := by
  rcases h.lo u with ⟨hL, hd⟩ | e
  · exact absurd hd (h.lr hx hy hL)
  · exact e
theorem Ag.rd (h : Ag d L s s') {x : Operand} (hx : ∀ t, x = .tmp t → d ≠ some t) {y : Slot} (hy : s.slot x = some y) (n : Nat) : s.rd y n = s'.rd y n := by
  unfold RS.rd
  split
  · rw [h.lo' hx hy]
  · rw [h.hp]
  · rfl
  · rfl
theorem Ag.rop (h : Ag d L s s') {op : Op} (hn : ∀ x ∈ op.operands.toList, ∀ t, x = .tmp t → d ≠ some t) : rop T s op = rop T s' op :=
  rop_congr (fun x hx => h.slot (hn x hx)) fun t a e y n hy => by subst e; exact h.rd (hn a (by simp [Op.operands])) hy n

theorem loose_put {e : Nat} {q : Option Nat} {y : Slot} (h : loose e s) (hy : ∀ off, y ≠ .lr e off) : loose e (s.put q y) := by
  intro t off ht hl
  rw [look_put] at hl
  split at hl
  · cases hl; exact hy off rfl
  · exact h t off ht hl

theorem Ag.put (h : Ag d L s s') {q : Option Nat} {y : Slot} (hy : L = true → ∀ u off, y = .lr u off → d ≠ some u) : Ag d L (s.put q y) (s'.put q y) := by
  refine ⟨?_, ?_, ?_, ?_, ?_, ?_, ?_⟩
  · cases q <;> exact h.sl
  · cases q <;> exact h.hp
  · cases q <;> exact h.df
  · intro t ht
    cases q with
    | none => exact h.env t ht
    | some q =>
      simp only [RS.put, lk]
      cases hq : Nat.beq q t with
      | true => rfl
      | false => exact h.env t ht
  · intro u
    have := h.lo u
    cases q <;> exact this
  · intro hL e he
    exact loose_put (h.ls hL e he) fun off e2 => hy hL e off e2 he
  · intro u hu
    cases q with
    | none => exact h.st u hu
    | some q =>
      simp only [RS.put, stale, List.any_cons, Bool.or_eq_false_iff] at hu ⊢
      exact ⟨hu.1, h.st u hu.2⟩
theorem Ag.setHp (h : Ag d L s s') (hp : Hp) : Ag d L { s with hp := hp } { s' with hp := hp } := ⟨h.sl, rfl, h.df, h.env, h.lo, h.ls, h.st⟩
theorem Ag.setDf (h : Ag d L s s') (x : Nat × List AV) : Ag d L { s with df := x :: s.df } { s' with df := x :: s'.df } := ⟨h.sl, h.hp, by simp only [h.df], h.env, h.lo, h.ls, h.st⟩
theorem Ag.setLo (h : Ag d L s s') (t : Nat) (c : List AV) : Ag d L { s with lo := setc s.lo t c } { s' with lo := setc s'.lo t c } := by
  refine ⟨h.sl, h.hp, h.df, h.env, fun u => ?_, h.ls, h.st⟩
  rcases h.lo u with h1 | e
  · exact .inl h1
  · refine .inr ?_
    simp only [lkc_setc, e]

/-- What is at the name stays. -/
def Keep (d : Option Nat) (L : Bool) (s s1 : RS) : Prop := ∀ e, d = some e → lk s1.env e = lk s.env e ∧ (L = true → lkc s1.lo e = lkc s.lo e)
theorem Keep.refl : Keep d L s s := fun _ _ => ⟨rfl, fun _ => rfl⟩
theorem Keep.put {q : Option Nat} {y : Slot} (h : Keep d L s s1) (hq : ∀ t, q = some t → d ≠ some t) : Keep d L s (s1.put q y) := by
  intro e he
  obtain ⟨h1, h2⟩ := h e he
  cases q with
  | none => exact ⟨h1, h2⟩
  | some q =>
    refine ⟨?_, h2⟩
    simp only [RS.put, lk]
    rw [beq_ne (by rintro rfl; exact hq q rfl he), cond_false]
    exact h1

theorem Ag.wrt (h : Ag d L s s') {x : Operand} (hx : ∀ t, x = .tmp t → d ≠ some t) {y : Slot} (hy : s.slot x = some y ∨ ∃ b off, y = .v (.ptr b off)) {vs : List AV} (hw : s.wrt y vs = some s1) :
    ∃ s1', s'.wrt y vs = some s1' ∧ Ag d L s1 s1' ∧ Keep d L s s1 ∧ Keep d L s' s1' := by
  unfold RS.wrt at hw ⊢
  split at hw
  · rename_i t off
    have hy' : s.slot x = some (.lr t off) := hy.resolve_right (by rintro ⟨b, o, e⟩; cases e)
    split at hw
    · rename_i c hc
      split at hw
      · rename_i c' hc'
        simp only [Option.some.injEq] at hw
        subst hw
        rw [h.lo' hx hy'] at hc
        simp only [hc, hc']
        have hk : ∀ s0 : RS, Keep d L s0 { s0 with lo := setc s0.lo t c' } := by
          intro s0 e he
          refine ⟨rfl, fun hL => ?_⟩
          simp only [lkc_setc]
          rw [if_neg (by rintro rfl; exact h.lr hx hy' hL he)]
        exact ⟨_, rfl, h.setLo t c', hk s, hk s'⟩
      · simp at hw
    · simp at hw
  · rename_i b off
    rw [← h.hp]
    split at hw
    · rename_i k hk
      split at hw
      · rename_i c' hc'
        simp only [Option.some.injEq] at hw
        subst hw
        exact ⟨_, rfl, h.setHp _, .refl, .refl⟩
      · simp at hw
    · simp at hw
  · simp at hw

def AgR (d : Option Nat) (L : Bool) (s s' : RS) : ROut → ROut → Prop
  | .ok s1 c, .ok s1' c' => c = c' ∧ Ag d L s1 s1' ∧ Keep d L s s1 ∧ Keep d L s' s1'
  | .panic v s1, .panic v' s1' => v = v' ∧ Ag d L s1 s1'
  | _, _ => False

/-- **An operation that does not name it is blind to it.** -/
theorem oop_congr {call : Nat → List AV → Hp → Option (Res × Hp)} {bx : List Nat} {o : Oper} (h : Ag d L s s') (hn : ∀ x ∈ o.op.operands.toList, ∀ t, x = .tmp t → d ≠ some t) (hd : ∀ q, o.dst = some q → d ≠ some q)
    {r : ROut} (hx : oop T call bx o s none = some r) : ∃ r', oop T call bx o s' none = some r' ∧ AgR d L s s' r r' := by
  have hval : ∀ x ∈ o.op.operands.toList, s.val x = s'.val x := fun x hm => val_congr (h.slot (hn x hm))
  have fin : ∀ {s1 s1' : RS} {y : AV}, Ag d L s1 s1' → Keep d L s s1 → Keep d L s' s1' → AgR d L s s' (.ok (s1.put o.dst (.v y)) none) (.ok (s1'.put o.dst (.v y)) none) :=
    fun h1 h2 h3 => ⟨rfl, h1.put (fun _ u off e => by cases e), h2.put hd, h3.put hd⟩
  have hR : ∀ {x x' : Option Slot}, x = x' → (∀ u off, x = some (.lr u off) → ∃ y ∈ o.op.operands.toList, ∃ off', s.slot y = some (.lr u off')) → oR o.dst s none x = some r → ∃ r', oR o.dst s' none x' = some r' ∧ AgR d L s s' r r' := by
    intro x x' e hlr hx
    subst e
    unfold oR at hx ⊢
    split at hx
    · rename_i y
      simp only [Option.some.injEq] at hx
      subst hx
      refine ⟨_, rfl, rfl, h.put (fun hL u off e => ?_), Keep.refl.put hd, Keep.refl.put hd⟩
      obtain ⟨z, hz, off', hs⟩ := hlr u off (by rw [e])
      exact h.lr (hn z hz) hs hL
    · simp at hx
  have hnew : ∀ {e cs s1}, newVar bx s o.dst e cs = some s1 → ∃ s1', newVar bx s' o.dst e cs = some s1' ∧ AgR d L s s' (.ok s1 none) (.ok s1' none) := by
    intro e cs s1 hw
    unfold newVar at hw ⊢
    split at hw
    · rename_i t hdst
      have hdt := hd t hdst
      split at hw
      · split at hw
        · simp at hw
        · rename_i hst
          simp only [Option.some.injEq] at hw
          subst hw
          have hst' := h.st t (by simpa using hst)
          simp only [hst', if_false, Bool.false_eq_true, *, if_true]
          refine ⟨_, rfl, rfl, ?_, ?_, ?_⟩
          · have := (h.setLo t cs).put (q := some t) (y := .lr t 0) (fun _ u off e => by cases e; exact hdt)
            exact this
          · intro q hq
            refine ⟨?_, fun _ => ?_⟩
            · simp only [lk]; rw [beq_ne (by rintro rfl; exact hdt hq), cond_false]
            · simp only [lkc_setc]; rw [if_neg (by rintro rfl; exact hdt hq)]
          · intro q hq
            refine ⟨?_, fun _ => ?_⟩
            · simp only [lk]; rw [beq_ne (by rintro rfl; exact hdt hq), cond_false]
            · simp only [lkc_setc]; rw [if_neg (by rintro rfl; exact hdt hq)]
      · simp only [Option.some.injEq] at hw
        subst hw
        rw [← h.hp]
        simp only [*, if_false, Bool.false_eq_true]
        refine ⟨_, rfl, rfl, (h.setHp (s.hp.push ⟨e, cs⟩)).put (q := some t) (y := .v (.ptr s.hp.n 0)) (fun _ u off e => by cases e), ?_, ?_⟩
        · intro q hq
          refine ⟨?_, fun _ => rfl⟩
          simp only [lk]; rw [beq_ne (by rintro rfl; exact hdt hq), cond_false]
        · intro q hq
          refine ⟨?_, fun _ => rfl⟩
          simp only [lk]; rw [beq_ne (by rintro rfl; exact hdt hq), cond_false]
    · simp at hw
  unfold oop at hx ⊢
  split at hx
  · rename_i e ho
    unfold oAlloc at hx ⊢
    split at hx
    · rename_i ti hti
      simp only [Option.map_eq_some_iff] at hx
      obtain ⟨s1, h1, rfl⟩ := hx
      obtain ⟨s1', e1, e2⟩ := hnew h1
      exact ⟨_, by simp [hti, e1], e2⟩
    · simp at hx
  · rename_i e x ho
    rw [ho] at hval
    unfold oBox at hx ⊢
    rw [← hval x (by simp [Op.operands])]
    split at hx
    · rename_i ti v hti hv
      cases hall : v.cells.all AV.one with
      | false => simp [hall] at hx
      | true =>
        simp only [hall, cond_true, Option.map_eq_some_iff] at hx
        obtain ⟨s1, h1, rfl⟩ := hx
        obtain ⟨s1', e1, e2⟩ := hnew h1
        exact ⟨_, by simp [hti, hv, hall, e1], e2⟩
    · simp at hx
  · rename_i t a x ho
    rw [ho] at hval hn
    unfold oStore at hx ⊢
    have ha := hn a (by simp [Op.operands])
    rw [← hval x (by simp [Op.operands]), ← h.slot ha]
    split at hx
    · rename_i ti p v hti hp hv
      cases hall : (Nat.beq v.cells.length ti.size && v.cells.all AV.one) with
      | false => simp [hall] at hx
      | true =>
        simp only [hall, cond_true, Option.map_eq_some_iff] at hx
        obtain ⟨s1, h1, rfl⟩ := hx
        obtain ⟨s1', e1, e2, e3, e4⟩ := h.wrt ha (.inl hp) h1
        exact ⟨_, by simp only [hti, hp, hv, hall, cond_true, e1, Option.map_some], fin e2 e3 e4⟩
    · simp at hx
  · rename_i t n ps ho
    rw [ho] at hn
    unfold oBuildSlice at hx ⊢
    rw [← pairs_congr (s := s) (s' := s') (l := ps.toList) (fun y hy => h.slot (hn y.2 (by simp only [Op.operands, List.mem_map]; exact ⟨y, hy, rfl⟩)))]
    simp only [Bool.cond_eq_ite] at hx ⊢
    repeat' split at hx
    all_goals simp only [Option.some.injEq, reduceCtorEq] at hx
    subst hx
    rw [← h.hp]
    refine ⟨_, ?_, fin (h.setHp _) .refl .refl⟩
    first | rfl | (repeat rw [if_pos (by assumption)])
  · rename_i t x y ho
    rw [ho] at hval
    unfold oMakeSlice at hx ⊢
    rw [← hval x (by simp [Op.operands]), ← hval y (by simp [Op.operands])]
    repeat' split at hx
    all_goals simp only [Option.some.injEq, reduceCtorEq] at hx
    subst hx
    rw [← h.hp]
    refine ⟨_, ?_, fin (h.setHp _) .refl .refl⟩
    first | rfl | (repeat rw [if_pos (by assumption)])
  · rename_i c ho
    rw [ho] at hval hn hR
    have hargs : ∀ x ∈ c.args.toList, ∀ t, x = .tmp t → d ≠ some t := fun x hx => hn x (by simp only [Op.operands, Call.operands]; simp at hx ⊢; simp [hx])
    have hvals : valsV s c.args.toList = valsV s' c.args.toList := vals_congr fun x hx => h.slot (hargs x hx)
    unfold oCall at hx ⊢
    split at hx
    · rename_i f hf
      have hfm : f ∈ (Op.call c).operands.toList := by simp [Op.operands, Call.operands, hf]
      unfold oCallV at hx ⊢
      rw [← hval f hfm, ← hvals, ← h.hp]
      repeat' split at hx
      all_goals simp only [Option.some.injEq, reduceCtorEq] at hx
      · subst hx
        exact ⟨_, rfl, fin (h.setHp _) .refl .refl⟩
      · subst hx
        exact ⟨_, rfl, rfl, h.setHp _⟩
    · rename_i b hb
      unfold oBuiltin at hx ⊢
      have hbi : rBuiltin T s b c.args c.argTypes = rBuiltin T s' b c.args c.argTypes := by
        have := h.rop (T := T) (op := .call c) hn
        simpa only [rop, rCall, hb] using this
      have hlr : ∀ u off, rBuiltin T s b c.args c.argTypes = some (.lr u off) → ∃ y ∈ (Op.call c).operands.toList, ∃ off', s.slot y = some (.lr u off') := by
        intro u off e
        exact rop_lr (T := T) (op := .call c) (by simpa only [rop, rCall, hb] using e)
      have hflat : ∀ sz x, s.flat sz x = s'.flat sz x := by
        intro sz x
        unfold RS.flat
        rw [h.hp]
      split at hx
      · unfold oAppend at hx ⊢
        rw [← hvals, ← h.hp]
        simp only [← hflat]
        simp only [Bool.cond_eq_ite] at hx ⊢
        repeat' split at hx
        all_goals simp only [Option.some.injEq, reduceCtorEq] at hx
        subst hx
        simp_all only [if_false, Bool.false_eq_true]
        exact ⟨_, rfl, fin (h.setHp _) .refl .refl⟩
      · unfold oCopy at hx ⊢
        rw [← hvals]
        simp only [← hflat]
        split at hx
        · rename_i a x t t2 hl ht
          split at hx
          · rename_i ti hti
            split at hx
            · rename_i e sz bytes ez hk
              split at hx
              · rename_i src n hfl
                split at hx
                · simp only [Option.some.injEq] at hx
                  subst hx
                  exact ⟨_, rfl, fin h .refl .refl⟩
                · rename_i b off len z cap
                  split at hx
                  · rename_i s1 h1
                    obtain ⟨s1', e1, e2, e3, e4⟩ := h.wrt (x := .func 0) (fun t e => by cases e) (.inr ⟨_, _, rfl⟩) h1
                    simp only [e1]
                    cases hz : Nat.beq z sz with
                    | false => simp [hz] at hx
                    | true =>
                      simp only [hz, cond_true, Option.some.injEq] at hx ⊢
                      subst hx
                      exact ⟨_, rfl, fin e2 e3 e4⟩
                  · simp at hx
                · simp at hx
              · simp at hx
            · simp at hx
          · simp at hx
        · simp at hx
      · simp [oRecover] at hx
      · rename_i h1 h2 h3
        obtain ⟨r', e1, e2⟩ := hR hbi hlr hx
        refine ⟨r', ?_, e2⟩
        cases b <;> first | exact e1 | exact absurd rfl h1 | exact absurd rfl h2 | exact absurd rfl h3
    · simp at hx
  · rename_i c ho
    rw [ho] at hval hn
    have hvals : valsV s c.args.toList = valsV s' c.args.toList := vals_congr fun x hx => h.slot (hn x (by simp only [Op.operands, Call.operands]; simp at hx ⊢; simp [hx]))
    unfold oDefer at hx ⊢
    split at hx
    · rename_i f hf
      have hfm : f ∈ (Op.defer c).operands.toList := by simp [Op.operands, Call.operands, hf]
      rw [← hval f hfm, ← hvals]
      split at hx
      · simp only [Option.some.injEq] at hx
        subst hx
        exact ⟨_, rfl, fin (h.setDf _) .refl .refl⟩
      · simp at hx
    · simp at hx
  · rename_i x ho
    rw [ho] at hval
    unfold oPanic at hx ⊢
    rw [← hval x (by simp [Op.operands])]
    split at hx
    · simp only [Option.some.injEq] at hx
      subst hx
      exact ⟨_, rfl, rfl, h⟩
    · simp at hx
  · rename_i n1 n2 n3 n4 n5 n6 n7 n8
    obtain ⟨r', e1, e2⟩ := hR (h.rop (T := T) hn) (fun u off e => rop_lr e) hx
    exact ⟨r', e1, e2⟩
end
end Go.Eng

/- ENGINE 17: two operations of a region that do not look at each other change places. -/
set_option linter.unusedVariables false
set_option linter.unusedSimpArgs false
namespace Go.Eng
open Go

mutual
theorem AV.beq_eq : ∀ (a b : AV), AV.beq a b = true → a = b
  | .bool a, b, h => by cases b <;> simp_all [AV.beq]
  | .int k a, b, h => by cases b <;> simp_all [AV.beq]
  | .str a, b, h => by cases b <;> simp_all [AV.beq]
  | .nilp, b, h => by cases b <;> simp_all [AV.beq]
  | .ptr a c, b, h => by cases b <;> simp_all [AV.beq]
  | .ro a c, b, h => by
    cases b <;> simp_all [AV.beq]
    exact AV.beqs_eq _ _ h.1
  | .nils, b, h => by cases b <;> simp_all [AV.beq]
  | .sl a c d e f, b, h => by cases b <;> simp_all [AV.beq]
  | .rl a c d, b, h => by
    cases b <;> simp_all [AV.beq]
    exact AV.beqss_eq _ _ h.1.1
  | .fn a c, b, h => by
    cases b <;> simp_all [AV.beq]
    exact AV.beqs_eq _ _ h.2
  | .nilfn, b, h => by cases b <;> simp_all [AV.beq]
  | .iface a c, b, h => by
    cases b <;> simp_all [AV.beq]
    exact AV.beq_eq _ _ h.2
  | .nilif, b, h => by cases b <;> simp_all [AV.beq]
  | .agg a, b, h => by
    cases b <;> simp_all [AV.beq]
    exact AV.beqs_eq _ _ h
  | .tup a, b, h => by
    cases b <;> simp_all [AV.beq]
    exact AV.beqs_eq _ _ h
  | .any, b, h => by cases b <;> simp_all [AV.beq]
theorem AV.beqs_eq : ∀ (a b : List AV), AV.beqs a b = true → a = b
  | [], b, h => by cases b <;> simp_all [AV.beqs]
  | x :: a, b, h => by
    cases b <;> simp_all [AV.beqs]
    exact ⟨AV.beq_eq _ _ h.1, AV.beqs_eq _ _ h.2⟩
theorem AV.beqss_eq : ∀ (a b : List (List AV)), AV.beqss a b = true → a = b
  | [], b, h => by cases b <;> simp_all [AV.beqss]
  | x :: a, b, h => by
    cases b <;> simp_all [AV.beqss]
    exact ⟨AV.beqs_eq _ _ h.1, AV.beqss_eq _ _ h.2⟩
end
theorem Slot.beq_eq {a b : Slot} (h : Slot.beq a b = true) : a = b := by
  cases a <;> cases b <;> simp_all [Slot.beq]
  exact AV.beq_eq _ _ h

section
variable {T : Nat → Option TI} {s s' s1 s1' : RS} {d : Option Nat} {L : Bool} {call : Nat → List AV → Hp → Option (Res × Hp)} {bx : List Nat} {ops : List Oper}

/-- One operation, asked for or not. -/
def one (T : Nat → Option TI) (call : Nat → List AV → Hp → Option (Res × Hp)) (bx : List Nat) (ops : List Oper) (o : Oper) (s : RS) : Option ROut :=
  match want ops s o with
  | none => none
  | some false => some (.ok (s.put o.dst (.v undefA)) none)
  | some true => oop T call bx o s none

/-- The re-checks after an operation. -/
def chk (T : Nat → Option TI) (ops : List Oper) (o : Oper) (ws : List Nat) (s s' : RS) : Bool :=
  match want ops s o with
  | some true => reck T ops s' ws
  | _ => true

theorem oop_none {o : Oper} {cm : Option CM} (hoop : oop T call bx o s none = some (.ok s' cm)) : cm = none := by
  cases cm with
  | none => rfl
  | some c =>
    exfalso
    revert hoop
    unfold oop oAlloc oBox oStore oBuildSlice oMakeSlice oCall oDefer oPanic oR
    intro hoop
    simp only [Bool.cond_eq_ite] at hoop
    repeat' split at hoop
    all_goals try simp only [Option.map_eq_some_iff, Option.some.injEq, ROut.ok.injEq, reduceCtorEq, and_false, exists_false, exists_const] at hoop
    · unfold oCallV at hoop
      repeat' split at hoop
      all_goals simp at hoop
    · unfold oBuiltin oAppend oCopy oRecover oR at hoop
      try simp only [Bool.cond_eq_ite] at hoop
      repeat' split at hoop
      all_goals simp at hoop
theorem one_none {o : Oper} {cm : Option CM} (h : one T call bx ops o s = some (.ok s' cm)) : cm = none := by
  unfold one at h
  split at h
  · simp at h
  · simp only [Option.some.injEq, ROut.ok.injEq] at h; exact h.2.symm
  · exact oop_none h

theorem runOps_cons (o : Oper) (ws : List Nat) (l : List (Oper × List Nat)) : runOps T call bx ops ((o, ws) :: l) s none =
    match one T call bx ops o s with
    | some (.ok s' _) => if chk T ops o ws s s' then runOps T call bx ops l s' none else none
    | some (.panic v s') => some (.panic v s')
    | none => none := by
  rcases hw : want ops s o with _ | _ | _
  · simp only [runOps, one, chk, hw]
  · simp only [runOps, one, chk, hw, if_true]
  · simp only [runOps, one, chk, hw]
    cases ho : oop T call bx o s none with
    | none => rfl
    | some r =>
      cases r with
      | ok s' cm' => rw [oop_none ho]
      | panic v s' => rfl

theorem guard_uses {o : Oper} {j : Nat} {b : Bool} {g : Oper} {e : Nat} (h1 : o.guard = some (j, b)) (h2 : ops[j]? = some g) (h3 : g.dst = some e) : e ∈ uses ops o := by
  simp only [uses, h1, h2, h3, List.mem_append]
  exact .inr (by simp)
theorem oper_uses {o : Oper} {t : Nat} (h : Operand.tmp t ∈ o.op.operands.toList) : t ∈ uses ops o := by
  simp only [uses, List.mem_append, List.mem_flatMap]
  exact .inl ⟨_, h, by simp [opTmp]⟩

theorem want_congr {o : Oper} (h : ∀ t ∈ uses ops o, lk s.env t = lk s'.env t) : want ops s o = want ops s' o := by
  unfold want
  split
  · rfl
  · rename_i j b hg
    split
    · rename_i g hj
      split
      · rename_i e hd
        rw [h e (guard_uses hg hj hd)]
      · rfl
    · rfl

theorem one_congr {o : Oper} (h : Ag d L s s') (hn : ∀ t ∈ uses ops o, d ≠ some t) (hd : ∀ q, o.dst = some q → d ≠ some q)
    {r : ROut} (hx : one T call bx ops o s = some r) : ∃ r', one T call bx ops o s' = some r' ∧ AgR d L s s' r r' := by
  unfold one at hx ⊢
  rw [← want_congr fun t ht => h.env t (hn t ht)]
  split at hx
  · simp at hx
  · simp only [Option.some.injEq] at hx
    subst hx
    exact ⟨_, rfl, rfl, h.put (fun _ u off e => by cases e), Keep.refl.put hd, Keep.refl.put hd⟩
  · exact oop_congr h (fun x hx t e => by subst e; exact hn t (oper_uses hx)) hd hx

/-! #### What only lays a temporary, or a variable of the frame's own -/
def RS.upd (s : RS) (d : Option Nat) (y : Slot) (c : Option (List AV)) : RS :=
  match d with
  | some t => { s with env := (t, y) :: s.env, lo := match c with | some c => setc s.lo t c | none => s.lo }
  | none => s
theorem upd_put (d : Option Nat) (y : Slot) : s.upd d y none = s.put d y := by cases d <;> rfl

/-- An operation that yields 'y' and lays 'c'. -/
structure Lays (T : Nat → Option TI) (call : Nat → List AV → Hp → Option (Res × Hp)) (bx : List Nat) (ops : List Oper) (x : Oper) (s : RS) (y : Slot) (c : Option (List AV)) : Prop where
  st : c.isSome = true → ∀ d, x.dst = some d → stale d s.env = false
  ld : isLd x = true → want ops s x = some true → rop T s x.op = some y
  nw : want ops s x ≠ none
  out : ∀ s', s.sl = s'.sl → (∀ t ∈ uses ops x, lk s.env t = lk s'.env t) → (isLd x = true → want ops s x = some true → rop T s' x.op = rop T s x.op) →
    (c.isSome = true → ∀ d, x.dst = some d → stale d s'.env = false) → one T call bx ops x s' = some (.ok (s'.upd x.dst y c) none)

theorem nonE {x : Oper} (hE : isE bx x = false) {r : ROut} (h : one T call bx ops x s = some r) : ∃ y c, r = .ok (s.upd x.dst y c) none ∧ Lays T call bx ops x s y c := by
  unfold one at h
  split at h
  · simp at h
  · rename_i hw
    simp only [Option.some.injEq] at h
    subst h
    refine ⟨.v undefA, none, by rw [upd_put], ?_, ?_, by rw [hw]; simp, ?_⟩
    · intro h; cases h
    · intro _ h2; rw [hw] at h2; cases h2
    · intro s' _ hu _ _
      unfold one
      rw [← want_congr hu, hw, upd_put]
  · rename_i hw
    have hslot : ∀ s' : RS, s.sl = s'.sl → (∀ t ∈ uses ops x, lk s.env t = lk s'.env t) → ∀ z ∈ x.op.operands.toList, s.slot z = s'.slot z := by
      intro s' h1 h2 z hz
      cases z with
      | tmp t => simp only [RS.slot, h1, h2 t (oper_uses hz)]
      | _ => rfl
    have hR : ∀ {o' : Option Slot}, oR x.dst s none o' = some r → o' = rop T s x.op → (∀ s' y, rop T s' x.op = some y → oop T call bx x s' none = oR x.dst s' none (some y)) →
        ∃ y c, r = .ok (s.upd x.dst y c) none ∧ Lays T call bx ops x s y c := by
      intro o' h1 h2 h3
      unfold oR at h1
      split at h1
      · rename_i y
        simp only [Option.some.injEq] at h1
        subst h1
        refine ⟨y, none, by rw [upd_put], (by intro h; cases h), fun _ _ => h2.symm, by rw [hw]; simp, ?_⟩
        intro s' e1 e2 e3 _
        unfold one
        rw [← want_congr e2, hw]
        simp only
        have : rop T s' x.op = some y := by
          by_cases hl : isLd x = true
          · rw [e3 hl hw]; exact h2.symm
          · rw [← rop_congr (s := s) (hslot s' e1 e2) (fun t a e => by simp [isLd, e] at hl)]; exact h2.symm
        rw [h3 s' y this, upd_put]
        rfl
      · simp at h1
    have hnew : ∀ {e cs s1}, newVar bx s x.dst e cs = some s1 → (∃ t, x.dst = some t ∧ mem t bx = true) → r = .ok s1 none → isLd x = false →
        (∀ s' s1', s.sl = s'.sl → (∀ t ∈ uses ops x, lk s.env t = lk s'.env t) → newVar bx s' x.dst e cs = some s1' → oop T call bx x s' none = some (.ok s1' none)) →
        ∃ y c, r = .ok (s.upd x.dst y c) none ∧ Lays T call bx ops x s y c := by
      rintro e cs s1 h1 ⟨t, ht, hm⟩ h2 hl h3
      unfold newVar at h1
      rw [ht] at h1
      simp only [hm, if_true] at h1
      split at h1
      · simp at h1
      · rename_i hst
        simp only [Option.some.injEq] at h1
        subst h1
        refine ⟨.lr t 0, some cs, by rw [h2, ht]; rfl, ?_, (by intro h; rw [hl] at h; cases h), by rw [hw]; simp, ?_⟩
        · intro _ d hd
          rw [ht] at hd; cases hd
          simpa using hst
        · intro s' e1 e2 e3 e4
          unfold one
          rw [← want_congr e2, hw]
          simp only
          refine h3 s' _ e1 e2 ?_
          unfold newVar
          rw [ht]
          simp only [hm, if_true, e4 rfl t ht, Bool.false_eq_true, if_false]
          rfl
    have hval : ∀ s' : RS, s.sl = s'.sl → (∀ t ∈ uses ops x, lk s.env t = lk s'.env t) → ∀ z ∈ x.op.operands.toList, s.val z = s'.val z := fun s' h1 h2 z hz => val_congr (hslot s' h1 h2 z hz)
    unfold oop at h
    split at h
    · rename_i e ho
      have hm : ∃ t, x.dst = some t ∧ mem t bx = true := by
        simp only [isE, ho] at hE
        split at hE
        · rename_i t ht; exact ⟨t, ht, by simpa using hE⟩
        · cases hE
      unfold oAlloc at h
      split at h
      · rename_i ti hti
        simp only [Option.map_eq_some_iff] at h
        obtain ⟨s1, h1, h2⟩ := h
        refine hnew h1 hm h2.symm (by simp [isLd, ho]) fun s' s1' _ _ h3 => ?_
        simp only [oop, ho, oAlloc, hti, h3, Option.map_some]
      · simp at h
    · rename_i e z ho
      have hm : ∃ t, x.dst = some t ∧ mem t bx = true := by
        simp only [isE, ho] at hE
        split at hE
        · rename_i t ht; exact ⟨t, ht, by simpa using hE⟩
        · cases hE
      unfold oBox at h
      split at h
      · rename_i ti v hti hv
        cases hall : v.cells.all AV.one with
        | false => simp [hall] at h
        | true =>
          simp only [hall, cond_true, Option.map_eq_some_iff] at h
          obtain ⟨s1, h1, h2⟩ := h
          refine hnew h1 hm h2.symm (by simp [isLd, ho]) fun s' s1' g1 g2 h3 => ?_
          simp only [oop, ho, oBox, hti, ← hval s' g1 g2 z (by simp [ho, Op.operands]), hv, hall, cond_true, h3, Option.map_some]
      · simp at h
    · rename_i ho; simp [isE, ho] at hE
    · rename_i ho; simp [isE, ho] at hE
    · rename_i ho; simp [isE, ho] at hE
    · rename_i c ho
      unfold oCall at h
      split at h
      · rename_i f hf; simp [isE, ho, hf] at hE
      · rename_i b hb
        unfold oBuiltin at h
        split at h
        · simp [isE, ho, hb] at hE
        · simp [isE, ho, hb] at hE
        · simp [isE, ho, hb] at hE
        · rename_i h1 h2 h3
          refine hR h (by simp only [rop, ho, rCall, hb]) fun s' y hy => ?_
          have hy' : rBuiltin T s' b c.args c.argTypes = some y := by simpa only [rop, ho, rCall, hb] using hy
          simp only [oop, ho, oCall, hb, oBuiltin]
          cases b <;> first | exact congrArg _ hy' | exact absurd rfl h1 | exact absurd rfl h2 | exact absurd rfl h3
      · simp at h
    · rename_i ho; simp [isE, ho] at hE
    · rename_i ho; simp [isE, ho] at hE
    · rename_i n1 n2 n3 n4 n5 n6 n7 n8
      refine hR h rfl fun s' y hy => ?_
      unfold oop
      split
      all_goals first
        | exact congrArg _ hy
        | (rename_i ho; first | exact (n1 _ ho).elim | exact (n2 _ _ ho).elim | exact (n3 _ _ _ ho).elim | exact (n4 _ _ _ ho).elim | exact (n5 _ _ _ ho).elim | exact (n6 _ ho).elim | exact (n7 _ ho).elim | exact (n8 _ ho).elim)

def Slw (sl : List Slot) : Prop := ∀ (i u off : Nat), sl[i]? = some (.lr u off) → u = i

/-- What it lays is all that changes. -/
theorem Lays.ag {x : Oper} {y : Slot} {c : Option (List AV)} (h : Lays T call bx ops x s y c) (hs : Slw s.sl) : Ag x.dst c.isSome (s.upd x.dst y c) s := by
  cases hd : x.dst with
  | none => exact ⟨rfl, rfl, rfl, fun _ _ => rfl, fun _ => .inr rfl, fun _ e he => (by cases he), fun _ h => h⟩
  | some q =>
    refine ⟨rfl, rfl, rfl, fun t ht => ?_, fun u => ?_, fun hc e he => ?_, fun u hu => ?_⟩
    · simp only [RS.upd, lk]
      rw [beq_ne (by rintro rfl; exact ht rfl), cond_false]
    · cases c with
      | none => exact .inr rfl
      | some c =>
        by_cases hq : u = q
        · subst hq; exact .inl ⟨rfl, rfl⟩
        · refine .inr ?_
          simp only [RS.upd, lkc_setc, if_neg hq]
    · cases he
      intro t off ht hl
      have hst := h.st hc q hd
      simp only [RS.look, RS.upd, lk] at hl
      rw [beq_ne (by rintro rfl; exact ht rfl), cond_false] at hl
      split at hl
      · rename_i z hz
        cases hl
        exact stale_spec hst t off hz
      · exact ht (hs t q off hl).symm
    · simp only [RS.upd, stale, List.any_cons, Bool.or_eq_false_iff] at hu
      exact hu.2

theorem one_env {p : Oper} {cm : Option CM} (h : one T call bx ops p s = some (.ok s1 cm)) : EnvStep p s s1 := by
  unfold one at h
  split at h
  · simp at h
  · simp only [Option.some.injEq, ROut.ok.injEq] at h
    rw [← h.1]; exact EnvStep.put p s s _ rfl rfl
  · exact oop_env h
theorem EnvStep.other {p : Oper} (h : EnvStep p s s1) {t : Nat} (ht : p.dst ≠ some t) : lk s1.env t = lk s.env t := by
  obtain ⟨_, h | ⟨q, z, hq, h⟩⟩ := h
  · rw [h]
  · rw [h]
    simp only [lk]
    rw [beq_ne (by rintro rfl; exact ht hq), cond_false]
theorem EnvStep.stale {p : Oper} (h : EnvStep p s s1) {u : Nat} (hu : stale u s1.env = false) : stale u s.env = false := by
  obtain ⟨_, h | ⟨q, z, hq, h⟩⟩ := h
  · rw [h] at hu; exact hu
  · rw [h] at hu
    simp only [Eng.stale, List.any_cons, Bool.or_eq_false_iff] at hu
    exact hu.2
end
end Go.Eng

/- ENGINE 18: an operation that is ready is moved to the front. -/
set_option linter.unusedVariables false
set_option linter.unusedSimpArgs false
namespace Go.Eng
open Go

section
variable {T : Nat → Option TI} {s s' s1 s1' : RS} {d : Option Nat} {L : Bool} {call : Nat → List AV → Hp → Option (Res × Hp)} {bx : List Nat} {ops : List Oper}

theorem notWanted {x : Oper} (hw : want ops s x = some false) {r : ROut} (h : one T call bx ops x s = some r) : ∃ y c, r = .ok (s.upd x.dst y c) none ∧ Lays T call bx ops x s y c := by
  unfold one at h
  rw [hw] at h
  simp only [Option.some.injEq] at h
  subst h
  refine ⟨.v undefA, none, by rw [upd_put], ?_, ?_, by rw [hw]; simp, ?_⟩
  · intro h; cases h
  · intro _ h2; rw [hw] at h2; cases h2
  · intro s' _ hu _ _
    unfold one
    rw [← want_congr hu, hw, upd_put]

theorem upd_env (q : Option Nat) (y : Slot) (c : Option (List AV)) (t : Nat) : lk (s.upd q y c).env t = if q = some t then some y else lk s.env t := by
  cases q with
  | none => simp [RS.upd]
  | some q =>
    simp only [RS.upd, lk, Option.some.injEq]
    by_cases h : q = t
    · subst h; simp
    · rw [beq_ne h, cond_false, if_neg h]
theorem upd_lo (q : Option Nat) (y : Slot) (c : Option (List AV)) (u : Nat) : lkc (s.upd q y c).lo u = if q = some u ∧ c.isSome = true then c else lkc s.lo u := by
  cases q with
  | none => simp [RS.upd]
  | some q =>
    cases c with
    | none => simp [RS.upd]
    | some c =>
      simp only [RS.upd, lkc_setc, Option.some.injEq, Option.isSome_some, and_true]
      by_cases h : u = q
      · subst h; simp
      · rw [if_neg h, if_neg (fun e => h e.symm)]

theorem Ag.refl : Ag none false s s := ⟨rfl, rfl, rfl, fun _ _ => rfl, fun _ => .inr rfl, fun h => (by cases h), fun _ h => h⟩
theorem Ag.trans {s2 : RS} (h : Ag none false s s1) (k : Ag none false s1 s2) : Ag none false s s2 :=
  ⟨h.sl.trans k.sl, h.hp.trans k.hp, h.df.trans k.df, fun t ht => (h.env t ht).trans (k.env t ht),
    fun u => by
      rcases h.lo u with ⟨e, _⟩ | e
      · cases e
      · rcases k.lo u with ⟨e2, _⟩ | e2
        · cases e2
        · exact .inr (e.trans e2), fun h => (by cases h), fun u hu => k.st u (h.st u hu)⟩
theorem Ag.ropN (h : Ag none false s s1) (op : Op) : Eng.rop T s op = Eng.rop T s1 op := Ag.rop h fun _ _ _ _ => by simp

theorem swap {x p : Oper} (hs : Slw s.sl) {y : Slot} {c : Option (List AV)} (hx : Lays T call bx ops x s y c) {r1 : ROut} (h1 : one T call bx ops p (s.upd x.dst y c) = some r1)
    (n1 : ∀ t ∈ uses ops p, x.dst ≠ some t) (n2 : ∀ q, p.dst = some q → x.dst ≠ some q) (n3 : ∀ t ∈ uses ops x, p.dst ≠ some t) (n4 : ∀ t ∈ uses ops x, x.dst ≠ some t)
    (hw : isLd x = true → want ops s x = some true → ∀ s2 cm, r1 = .ok s2 cm → rop T s2 x.op = some y) :
    ∃ r1', one T call bx ops p s = some r1' ∧ (match r1, r1' with
      | .ok s2 _, .ok sp _ => ∃ s2', one T call bx ops x sp = some (.ok s2' none) ∧ Ag none false s2 s2'
      | .panic v s2, .panic v' sp => v = v' ∧ Ag x.dst c.isSome s2 sp
      | _, _ => False) := by
  have hA := hx.ag hs
  obtain ⟨r1', e1, e2⟩ := one_congr hA n1 n2 h1
  refine ⟨r1', e1, ?_⟩
  cases r1 with
  | panic v s2 =>
    cases r1' with
    | panic v' sp => exact e2
    | ok sp c2 => exact e2.elim
  | ok s2 c2 =>
    cases r1' with
    | panic v' sp => exact e2.elim
    | ok sp c3 =>
      obtain ⟨_, hAg, K1, K2⟩ := e2
      have hv1 := one_env e1
      have hv2 := one_env h1
      refine ⟨sp.upd x.dst y c, hx.out sp hv1.1.symm (fun t ht => (hv1.other (n3 t ht)).symm) (fun l1 l2 => ?_) (fun hc q hq => ?_), ?_⟩
      · rw [hx.ld l1 l2, ← hAg.rop (T := T) (op := x.op) (fun z hz t e => by subst e; exact n4 t (oper_uses hz))]
        exact hw l1 l2 s2 c2 rfl
      · obtain ⟨_, hv | ⟨q2, z, hq2, hv⟩⟩ := hv1
        · rw [hv]; exact hx.st hc q hq
        · rw [hv]
          simp only [stale, List.any_cons, Bool.or_eq_false_iff]
          refine ⟨?_, hx.st hc q hq⟩
          cases z with
          | v a => rfl
          | none => rfl
          | lr u off =>
            by_cases hu : u = q
            · exfalso
              subst hu
              have hne : q2 ≠ u := by rintro rfl; exact n2 q2 hq2 hq
              refine hAg.ls hc u hq q2 off hne ?_
              rw [hAg.look (t := q2) (by rw [hq]; simp; exact fun e => hne e.symm)]
              simp [RS.look, hv, lk]
            · exact beq_ne hu
      · refine ⟨?_, ?_, ?_, fun t _ => ?_, fun u => .inr ?_, fun h => (by cases h), fun u hu => ?_⟩
        · rw [hAg.sl]; cases x.dst <;> rfl
        · rw [hAg.hp]; cases x.dst <;> rfl
        · rw [hAg.df]; cases x.dst <;> rfl
        · rw [upd_env]
          split
          · rename_i hq
            rw [(K1 t hq).1, upd_env, if_pos hq]
          · rename_i hq
            exact hAg.env t hq
        · rw [upd_lo]
          split
          · rename_i hq
            rw [(K1 u hq.1).2 hq.2, upd_lo, if_pos hq]
          · rename_i hq
            exact (hAg.lo u).resolve_left (fun hh => hq ⟨hh.2, hh.1⟩)
        · have a1 := hAg.st u hu
          have a2 := hv2.stale hu
          cases hq : x.dst with
          | none => exact a1
          | some q =>
            rw [hq] at a2
            simp only [RS.upd, stale, List.any_cons, Bool.or_eq_false_iff] at a2 ⊢
            exact ⟨a2.1, a1⟩

theorem run_sl : ∀ (l : List (Oper × List Nat)) (s : RS) {S : RS} {cm : Option CM}, runOps T call bx ops l s none = some (.ok S cm) → S.sl = s.sl ∧ cm = none
  | [], s, S, cm, h => by simp only [runOps, Option.some.injEq, ROut.ok.injEq] at h; exact ⟨by rw [h.1], h.2.symm⟩
  | (o, ws) :: l, s, S, cm, h => by
    rw [runOps_cons] at h
    split at h
    · rename_i s1 c1 h1
      split at h
      · obtain ⟨a, b⟩ := run_sl l s1 h
        exact ⟨a.trans (one_env h1).1, b⟩
      · simp at h
    · simp at h
    · simp at h

theorem pres : ∀ (X : List (Oper × List Nat)) (s : RS) {S : RS} {cm : Option CM}, Slw s.sl → (∀ z ∈ X, isE bx z.1 = false) → runOps T call bx ops X s none = some (.ok S cm) →
    (∀ t, (∀ z ∈ X, z.1.dst ≠ some t) → lk S.env t = lk s.env t) ∧ ∀ x : Oper, (∀ z ∈ X, ∀ t ∈ uses ops x, z.1.dst ≠ some t) → rop T S x.op = rop T s x.op
  | [], s, S, cm, _, _, h => by
    simp only [runOps, Option.some.injEq, ROut.ok.injEq] at h
    rw [h.1]; exact ⟨fun _ _ => rfl, fun _ _ => rfl⟩
  | (o, ws) :: X, s, S, cm, hs, hE, h => by
    rw [runOps_cons] at h
    split at h
    · rename_i s1 c1 h1
      split at h
      · obtain ⟨y, c, e, hl⟩ := nonE (hE (o, ws) (by simp)) h1
        cases e
        have hsl : Slw (s.upd o.dst y c).sl := by have := (one_env h1).1; rw [this]; exact hs
        obtain ⟨a, b⟩ := pres X _ hsl (fun z hz => hE z (by simp [hz])) h
        refine ⟨fun t ht => ?_, fun x hx => ?_⟩
        · rw [a t fun z hz => ht z (by simp [hz])]
          exact (one_env h1).other (ht (o, ws) (by simp))
        · rw [b x fun z hz => hx z (by simp [hz])]
          exact (hl.ag hs).rop fun z hz t e => by subst e; exact hx (o, ws) (by simp) t (oper_uses hz)
      · simp at h
    · simp at h
    · simp at h

theorem reck_congr (h : Ag none false s s') : ∀ ws : List Nat, reck T ops s ws = reck T ops s' ws
  | [] => rfl
  | i :: ws => by
    simp only [reck, reck_congr h ws]
    congr 1
    split
    · rename_i o ho
      rw [want_congr (s := s) (s' := s') fun t _ => h.env t (by simp)]
      simp only [h.env _ (show none ≠ some _ by simp), h.ropN]
    · rfl

def AgO : ROut → ROut → Prop
  | .ok S _, .ok S' c => c = none ∧ Ag none false S S'
  | .panic v S, .panic v' S' => v = v' ∧ Ag none false S S'
  | _, _ => False

theorem run_congr : ∀ (l : List (Oper × List Nat)) {s s' : RS} {r : ROut}, Ag none false s s' → runOps T call bx ops l s none = some r → ∃ r', runOps T call bx ops l s' none = some r' ∧ AgO r r'
  | [], s, s', r, h, hr => by
    simp only [runOps, Option.some.injEq] at hr
    subst hr
    exact ⟨_, rfl, rfl, h⟩
  | (o, ws) :: l, s, s', r, h, hr => by
    rw [runOps_cons] at hr ⊢
    have hwant : want ops s o = want ops s' o := want_congr fun t _ => h.env t (by simp)
    split at hr
    · rename_i s1 c1 h1
      obtain ⟨r1, e1, e2⟩ := one_congr h (fun t _ => by simp) (fun q _ => by simp) h1
      cases r1 with
      | panic v s2 => exact e2.elim
      | ok s2 c2 =>
        obtain ⟨_, g, _, _⟩ := e2
        rw [e1]
        simp only
        have hc : chk T ops o ws s s1 = chk T ops o ws s' s2 := by simp only [chk, hwant, reck_congr g]
        rw [← hc]
        split at hr
        · rename_i hh
          rw [if_pos hh]
          exact run_congr l g hr
        · simp at hr
    · rename_i v s1 h1
      obtain ⟨r1, e1, e2⟩ := one_congr h (fun t _ => by simp) (fun q _ => by simp) h1
      simp only [Option.some.injEq] at hr
      subst hr
      cases r1 with
      | panic v s2 => rw [e1]; exact ⟨_, rfl, e2⟩
      | ok s2 c2 => exact e2.elim
    · simp at hr

theorem runOps_append : ∀ (X Y : List (Oper × List Nat)) (s : RS), runOps T call bx ops (X ++ Y) s none =
    match runOps T call bx ops X s none with
    | some (.ok S _) => runOps T call bx ops Y S none
    | r => r
  | [], Y, s => rfl
  | (o, ws) :: X, Y, s => by
    rw [List.cons_append, runOps_cons, runOps_cons]
    split
    · split
      · exact runOps_append X Y _
      · rfl
    · rfl
    · rfl

/-- **The move.** -/
theorem move {p : Oper} : ∀ (X : List (Oper × List Nat)) (s : RS) {r : ROut}, Slw s.sl → (∀ x ∈ X, isE bx x.1 = false) →
    (∀ x ∈ X, (∀ t ∈ uses ops p, x.1.dst ≠ some t) ∧ (∀ q, p.dst = some q → x.1.dst ≠ some q) ∧ (∀ t ∈ uses ops x.1, p.dst ≠ some t) ∧ (∀ t ∈ uses ops x.1, x.1.dst ≠ some t) ∧ x.2 = []) →
    X.Pairwise (fun x z => (∀ t ∈ uses ops x.1, z.1.dst ≠ some t) ∧ (∀ t, x.1.dst = some t → z.1.dst ≠ some t)) →
    runOps T call bx ops (X ++ [(p, [])]) s none = some r →
    (∀ S cm, r = .ok S cm → isE bx p = true → want ops s p = some true → ∀ x ∈ X, isLd x.1 = true → want ops S x.1 = some true → ∃ y, (∃ d, x.1.dst = some d ∧ lk S.env d = some y) ∧ rop T S x.1.op = some y) →
    ∃ r1, one T call bx ops p s = some r1 ∧ (match r, r1 with
      | .ok S _, .ok sp _ => ∃ S', runOps T call bx ops X sp none = some (.ok S' none) ∧ Ag none false S S'
      | .panic v S, .panic v' sp => v = v' ∧ S.hp = sp.hp ∧ S.df = sp.df ∧ S.sl = sp.sl ∧ ∀ u, (∀ x ∈ X, x.1.dst ≠ some u) → lkc S.lo u = lkc sp.lo u
      | _, _ => False)
  | [], s, r, hs, _, _, _, h, _ => by
    rw [List.nil_append, runOps_cons] at h
    split at h
    · rename_i s1 c1 h1
      have : chk T ops p [] s s1 = true := by simp only [chk, reck]; split <;> rfl
      rw [if_pos this] at h
      simp only [runOps, Option.some.injEq] at h
      subst h
      exact ⟨_, h1, s1, rfl, .refl⟩
    · rename_i v s1 h1
      simp only [Option.some.injEq] at h
      subst h
      exact ⟨_, h1, rfl, rfl, rfl, rfl, fun _ _ => rfl⟩
    · simp at h
  | (x, wx) :: X, s, r, hs, hE, hn, hpw, h, hw => by
    rw [List.cons_append, runOps_cons] at h
    obtain ⟨n1, n2, n3, n4, n5⟩ := hn (x, wx) (by simp)
    simp only at n1 n2 n3 n4 n5
    rw [List.pairwise_cons] at hpw
    split at h
    · rename_i s1 c1 h1
      split at h
      · obtain ⟨y, c, e, hl⟩ := nonE (hE (x, wx) (by simp)) h1
        cases e
        have hv1 := one_env h1
        have hs1 : Slw (s.upd x.dst y c).sl := by rw [hv1.1]; exact hs
        have hwp : want ops (s.upd x.dst y c) p = want ops s p := want_congr fun t ht => hv1.other (n1 t ht)
        obtain ⟨r1, i1, i2⟩ := move X _ hs1 (fun z hz => hE z (by simp [hz])) (fun z hz => hn z (by simp [hz])) hpw.2 h (fun S cm e g1 g2 z hz => hw S cm e g1 (by rw [← hwp]; exact g2) z (by simp [hz]))
        cases r with
        | panic v S =>
          cases r1 with
          | ok sp c2 => exact i2.elim
          | panic v' sp1 =>
            obtain ⟨rfl, j1, j2, j3, j4⟩ := i2
            obtain ⟨r1', e1, e2⟩ := swap hs hl i1 n1 n2 n3 n4 (fun _ _ s2 cm e => by cases e)
            refine ⟨r1', e1, ?_⟩
            cases r1' with
            | ok sp c3 => exact e2.elim
            | panic v'' sp =>
              obtain ⟨rfl, g⟩ := e2
              refine ⟨rfl, j1.trans g.hp, j2.trans g.df, j3.trans g.sl, fun u hu => ?_⟩
              rw [j4 u fun z hz => hu z (by simp [hz])]
              exact (g.lo u).resolve_left (fun hh => hu (x, wx) (by simp) hh.2)
        | ok S c2 =>
          cases r1 with
          | panic v' sp1 => exact i2.elim
          | ok sp1 c3 =>
            obtain ⟨S', j1, j2⟩ := i2
            have hvp := one_env i1
            have hsp1 : Slw sp1.sl := by rw [hvp.1]; exact hs1
            obtain ⟨p1, p2⟩ := pres X sp1 hsp1 (fun z hz => hE z (by simp [hz])) j1
            obtain ⟨r1', e1, e2⟩ := swap hs hl i1 n1 n2 n3 n4 (fun l1 l2 s2 cm e => by
              cases e
              by_cases hp : isE bx p = true ∧ want ops s p = some true
              · have hu : ∀ t ∈ uses ops x, lk S.env t = lk s.env t := fun t ht => by
                  rw [j2.env t (by simp), p1 t (fun z hz => (hpw.1 z hz).1 t ht), hvp.other (n3 t ht), hv1.other (n4 t ht)]
                obtain ⟨y', ⟨q, hq, hy'⟩, hrop⟩ := hw S c2 rfl hp.1 hp.2 (x, wx) (by simp) l1 (by rw [want_congr hu]; exact l2)
                have hyy : some y' = some y := by
                  rw [← hy', j2.env q (by simp), p1 q (fun z hz => (hpw.1 z hz).2 q hq), hvp.other (fun e => n2 q e hq), upd_env, if_pos hq]
                cases hyy
                rw [← hrop, j2.ropN, p2 x fun z hz => (hpw.1 z hz).1]
              · have hlp : ∃ y2 c2, (ROut.ok sp1 c3) = .ok ((s.upd x.dst y c).upd p.dst y2 c2) none ∧ Lays T call bx ops p (s.upd x.dst y c) y2 c2 := by
                  by_cases hE2 : isE bx p = false
                  · exact nonE hE2 i1
                  · have hE3 : isE bx p = true := by simpa using hE2
                    refine notWanted ?_ i1
                    have hnn : want ops (s.upd x.dst y c) p ≠ none := by
                      intro hnone
                      unfold one at i1
                      rw [hnone] at i1
                      simp at i1
                    cases hwv : want ops (s.upd x.dst y c) p with
                    | none => exact absurd hwv hnn
                    | some b =>
                      cases b with
                      | false => rfl
                      | true => exact absurd ⟨hE3, by rw [← hwp]; exact hwv⟩ hp
                obtain ⟨y2, c2, e, hl2⟩ := hlp
                cases e
                rw [(hl2.ag hs1).rop (T := T) (op := x.op) (fun z hz t e => by subst e; exact n3 t (oper_uses hz)), (hl.ag hs).rop (T := T) (op := x.op) (fun z hz t e => by subst e; exact n4 t (oper_uses hz))]
                exact hl.ld l1 l2)
            refine ⟨r1', e1, ?_⟩
            cases r1' with
            | panic v'' sp => exact e2.elim
            | ok sp c4 =>
              obtain ⟨s2', g1, g2⟩ := e2
              obtain ⟨r', k1, k2⟩ := run_congr X g2 j1
              cases r' with
              | panic v'' z => exact k2.elim
              | ok S'' c5 =>
                obtain ⟨rfl, k2⟩ := k2
                refine ⟨S'', ?_, j2.trans k2⟩
                rw [runOps_cons, g1]
                have : chk T ops x wx sp s2' = true := by rw [n5]; simp only [chk, reck]; split <;> rfl
                simp only [this, if_true]
                exact k1
      · simp at h
    · rename_i v s1 h1
      obtain ⟨y, c, e, hl⟩ := nonE (hE (x, wx) (by simp)) h1
      cases e
    · simp at h
end
end Go.Eng

/- ENGINE 19: a region that draws, in whatever order. -/
set_option linter.unusedVariables false
set_option linter.unusedSimpArgs false
namespace Go.Eng
open Go

/-! #### What is asked of the order of a region that draws -/
def dstOut (o : Oper) (l : List Nat) : Bool := match o.dst with | some d => !mem d l | none => true
def selfB (bx : List Nat) (ops : List Oper) (e : Nat × List Nat) : Bool :=
  match ops[e.1]? with
  | some o => dstOut o (uses ops o) && (isE bx o || e.2.isEmpty)
  | none => false
def pairB (bx : List Nat) (ops : List Oper) (A : List Nat) (e f : Nat × List Nat) : Bool :=
  match ops[e.1]?, ops[f.1]? with
  | some o, some p => !Nat.beq e.1 f.1 && dstOut p (names ops o) && (Nat.testBit (A.getD f.1 0) e.1 || (!isE bx o && dstOut o (names ops p) && (!(isE bx p && isLd o) || mem e.1 f.2)))
  | _, _ => false
def pairsB (bx : List Nat) (ops : List Oper) (A : List Nat) : List (Nat × List Nat) → Bool
  | [] => true
  | e :: r => selfB bx ops e && r.all (pairB bx ops A e) && pairsB bx ops A r
def edgesB : Nat → List Oper → Bool
  | _, [] => true
  | k, o :: r => (o.after.toList.all fun e => !Region.binds .any e || Nat.blt e.on k) && edgesB (k + 1) r
def drawOk (bx : List Nat) (h : RH) (ops : Array Oper) : Bool :=
  let l := ops.toList
  Nat.ble h.ord.length ops.size && edgesB 0 l && (List.range ops.size).all (fun i => mem i (h.ord.map (·.1))) && pairsB bx l (ancs l []) h.ord

/-! #### Ancestors -/
def mask (f : Nat → Nat) (o : Oper) : Nat := o.after.foldl (fun s e => if Region.binds .any e then s ||| 2 ^ e.on ||| f e.on else s) 0
theorem ancs_pre : ∀ (l : List Oper) (acc : List Nat), ∃ t, ancs l acc = acc ++ t
  | [], acc => ⟨[], by simp [ancs]⟩
  | o :: l, acc => by
    obtain ⟨t, ht⟩ := ancs_pre l (acc ++ [mask (fun i => acc.getD i 0) o])
    exact ⟨_ :: t, by simp only [ancs]; rw [show (acc ++ [o.after.foldl (fun s e => if Region.binds .any e then s ||| 2 ^ e.on ||| acc.getD e.on 0 else s) 0]) = acc ++ [mask (fun i => acc.getD i 0) o] from rfl, ht, List.append_assoc]; rfl⟩
theorem ancs_get : ∀ (l : List Oper) (acc : List Nat) (j : Nat) (o : Oper), l[j]? = some o → ∃ acc' : List Nat, acc'.length = acc.length + j ∧ (∃ t, ancs l acc = acc' ++ t) ∧ (ancs l acc).getD (acc.length + j) 0 = mask (fun i => acc'.getD i 0) o
  | [], acc, j, o, h => by simp at h
  | o' :: l, acc, 0, o, h => by
    simp only [List.getElem?_cons_zero, Option.some.injEq] at h
    subst h
    obtain ⟨t, ht⟩ := ancs_pre l (acc ++ [mask (fun i => acc.getD i 0) o'])
    have e : ancs (o' :: l) acc = ancs l (acc ++ [mask (fun i => acc.getD i 0) o']) := rfl
    refine ⟨acc, rfl, ancs_pre _ _, ?_⟩
    rw [e, ht]
    simp
  | o' :: l, acc, j + 1, o, h => by
    have e : ancs (o' :: l) acc = ancs l (acc ++ [mask (fun i => acc.getD i 0) o']) := rfl
    obtain ⟨acc', h1, h2, h3⟩ := ancs_get l (acc ++ [mask (fun i => acc.getD i 0) o']) j o (by simpa using h)
    simp only [List.length_append, List.length_cons, List.length_nil] at h1 h3
    rw [e]
    refine ⟨acc', by omega, h2, ?_⟩
    rw [show acc.length + (j + 1) = acc.length + (0 + 1) + j by omega]
    exact h3
theorem foldl_mask (f : Nat → Nat) (i : Nat) : ∀ (l : List Edge) (s : Nat), Nat.testBit (l.foldl (fun s e => if Region.binds .any e then s ||| 2 ^ e.on ||| f e.on else s) s) i = true →
    Nat.testBit s i = true ∨ ∃ e ∈ l, Region.binds .any e = true ∧ (e.on = i ∨ Nat.testBit (f e.on) i = true)
  | [], s, h => .inl h
  | e :: l, s, h => by
    simp only [List.foldl_cons] at h
    rcases foldl_mask f i l _ h with h | ⟨e', h1, h2⟩
    · split at h
      · rename_i hb
        simp only [Nat.testBit_or, Bool.or_eq_true, Nat.testBit_two_pow, decide_eq_true_eq] at h
        rcases h with (h | h) | h
        · exact .inl h
        · exact .inr ⟨e, by simp, hb, .inl h⟩
        · exact .inr ⟨e, by simp, hb, .inr h⟩
      · exact .inl h
    · exact .inr ⟨e', by simp [h1], h2⟩
theorem edgesB_get : ∀ (l : List Oper) (k j : Nat) (o : Oper), edgesB k l = true → l[j]? = some o → ∀ e ∈ o.after, Region.binds .any e = true → e.on < k + j
  | [], k, j, o, _, h => by simp at h
  | o' :: l, k, 0, o, hb, h => by
    simp only [List.getElem?_cons_zero, Option.some.injEq] at h
    subst h
    simp only [edgesB, Bool.and_eq_true, List.all_eq_true, Bool.or_eq_true, Bool.not_eq_eq_eq_not, Bool.not_true] at hb
    intro e he hbe
    have := hb.1 e (by simpa using he)
    rcases this with h | h
    · rw [hbe] at h; cases h
    · exact Nat.le_of_ble_eq_true h
  | o' :: l, k, j + 1, o, hb, h => by
    simp only [edgesB, Bool.and_eq_true] at hb
    intro e he hbe
    have := edgesB_get l (k + 1) j o hb.2 (by simpa using h) e he hbe
    omega

/-- What is closed under the edges is closed under ancestry. -/
theorem anc_closed {ops : List Oper} (hb : edgesB 0 ops = true) {D : Nat → Prop} (hD : ∀ j o, ops[j]? = some o → D j → ∀ e ∈ o.after, Region.binds .any e = true → D e.on) :
    ∀ (n j : Nat), j < n → ∀ o, ops[j]? = some o → (∀ e ∈ o.after, Region.binds .any e = true → D e.on) → ∀ i, Nat.testBit ((ancs ops []).getD j 0) i = true → D i
  | 0, j, hj, _, _, _, _, _ => by omega
  | n + 1, j, hj, o, ho, hdir, i, hi => by
    obtain ⟨acc', h1, ⟨t, ht⟩, h3⟩ := ancs_get ops [] j o ho
    simp only [List.length_nil, Nat.zero_add] at h1 h3
    rw [h3] at hi
    unfold mask at hi
    rw [← Array.foldl_toList] at hi
    rcases foldl_mask (fun i => acc'.getD i 0) i _ 0 hi with h | ⟨e, he, hbe, h⟩
    · simp at h
    · have he' : e ∈ o.after := by simpa using he
      have hlt := edgesB_get ops 0 j o hb ho e he' hbe
      have hDe := hdir e he' hbe
      rcases h with rfl | h
      · exact hDe
      · have hA : acc'.getD e.on 0 = (ancs ops []).getD e.on 0 := by
          rw [ht]
          simp only [List.getD_eq_getElem?_getD]
          rw [List.getElem?_append_left (by omega)]
        rw [hA] at h
        have hoe : ∃ o2, ops[e.on]? = some o2 := by
          have : j < ops.length := (List.getElem?_eq_some_iff.1 ho).1
          exact ⟨ops[e.on]'(by omega), List.getElem?_eq_getElem (by omega)⟩
        obtain ⟨o2, ho2⟩ := hoe
        exact anc_closed hb hD n e.on (by omega) o2 ho2 (hD e.on o2 ho2 hDe) i h

section
variable {T : Nat → Option TI} {s s' s1 s1' : RS} {call : Nat → List AV → Hp → Option (Res × Hp)} {bx : List Nat} {ops : List Oper}

theorem dstOut_spec {o : Oper} {l : List Nat} (h : dstOut o l = true) : ∀ t ∈ l, o.dst ≠ some t := by
  intro t ht e
  unfold dstOut at h
  rw [e] at h
  simp only [Bool.not_eq_eq_eq_not, Bool.not_true] at h
  rw [(mem_iff t l).2 ht] at h
  cases h

theorem reck_spec {S : RS} : ∀ {ws : List Nat}, reck T ops S ws = true → ∀ i ∈ ws, ∀ o, ops[i]? = some o → want ops S o = some true → ∃ y, (∃ d, o.dst = some d ∧ lk S.env d = some y) ∧ rop T S o.op = some y
  | [], _, i, hi, _, _, _ => by simp at hi
  | j :: ws, h, i, hi, o, ho, hw => by
    simp only [reck, Bool.and_eq_true] at h
    simp only [List.mem_cons] at hi
    rcases hi with rfl | hi
    · have h1 := h.1
      rw [ho] at h1
      simp only [hw] at h1
      split at h1
      · rename_i d hd
        split at h1
        · rename_i x y hx hy
          have := Slot.beq_eq h1
          subst this
          exact ⟨_, ⟨d, hd, hx⟩, hy⟩
        · cases h1
      · cases h1
    · exact reck_spec h.2 i hi o ho hw

theorem run_nonE : ∀ (X : List (Oper × List Nat)) (s : RS) {r : ROut}, (∀ z ∈ X, isE bx z.1 = false) → runOps T call bx ops X s none = some r → ∃ S, r = .ok S none
  | [], s, r, _, h => by simp only [runOps, Option.some.injEq] at h; exact ⟨s, h.symm⟩
  | (o, ws) :: X, s, r, hE, h => by
    rw [runOps_cons] at h
    split at h
    · split at h
      · exact run_nonE X _ (fun z hz => hE z (by simp [hz])) h
      · simp at h
    · rename_i v s1 h1
      obtain ⟨y, c, e, _⟩ := nonE (hE (o, ws) (by simp)) h1
      cases e
    · simp at h

/-- How the outcome of another order stands to the canonical one's. -/
def OutRel (ops : List Oper) : ROut → ROut → Prop
  | .ok S _, .ok S' _ => Ag none false S S'
  | .panic v S, .panic v' S' => v = v' ∧ S.hp = S'.hp ∧ S.df = S'.df ∧ S.sl = S'.sl ∧ ∀ u, (∀ o ∈ ops, o.dst ≠ some u) → lkc S.lo u = lkc S'.lo u
  | _, _ => False
theorem OutRel.refl (r : ROut) : OutRel ops r r := by
  cases r with
  | ok S c => exact Ag.refl
  | panic v S => exact ⟨rfl, rfl, rfl, rfl, fun _ _ => rfl⟩
theorem OutRel.trans {r1 r2 r3 : ROut} (h : OutRel ops r1 r2) (k : OutRel ops r2 r3) : OutRel ops r1 r3 := by
  cases r1 <;> cases r2 <;> cases r3 <;> first | exact h.elim | exact k.elim | skip
  · exact Ag.trans h k
  · obtain ⟨rfl, h1, h2, h3, h4⟩ := h
    obtain ⟨rfl, k1, k2, k3, k4⟩ := k
    exact ⟨rfl, h1.trans k1, h2.trans k2, h3.trans k3, fun u hu => (h4 u hu).trans (k4 u hu)⟩
theorem AgO.rel {r r' : ROut} (h : AgO r r') : OutRel ops r r' := by
  cases r <;> cases r' <;> first | exact h.elim | skip
  · exact h.2
  · obtain ⟨rfl, h⟩ := h
    exact ⟨rfl, h.hp, h.df, h.sl, fun u _ => (h.lo u).resolve_left (fun hh => by cases hh.1)⟩

def ent (ops : List Oper) (c : List (Nat × List Nat)) : List (Oper × List Nat) := c.map fun e => ((ops[e.1]?).getD default, e.2)
theorem ent_pick : ∀ (c : List (Nat × List Nat)) {l : List (Oper × List Nat)}, pickOrd ops c = some l → l = ent ops c
  | [], l, h => by simp only [pickOrd, Option.some.injEq] at h; exact h.symm
  | (i, ws) :: c, l, h => by
    simp only [pickOrd] at h
    split at h
    · rename_i o ho
      simp only [Option.map_eq_some_iff] at h
      obtain ⟨l', h1, rfl⟩ := h
      rw [ent_pick c h1]
      simp [ent, ho]
    · simp at h

theorem pairsB_mem {A : List Nat} : ∀ {c : List (Nat × List Nat)}, pairsB bx ops A c = true → ∀ e ∈ c, selfB bx ops e = true
  | [], _, e, he => by simp at he
  | f :: c, h, e, he => by
    simp only [pairsB, Bool.and_eq_true] at h
    simp only [List.mem_cons] at he
    rcases he with rfl | he
    · exact h.1.1
    · exact pairsB_mem h.2 e he
theorem pairsB_pw {A : List Nat} : ∀ {c : List (Nat × List Nat)}, pairsB bx ops A c = true → c.Pairwise fun e f => pairB bx ops A e f = true
  | [], _ => .nil
  | f :: c, h => by
    simp only [pairsB, Bool.and_eq_true, List.all_eq_true] at h
    exact List.pairwise_cons.2 ⟨h.1.2, pairsB_pw h.2⟩
theorem pairsB_of {A : List Nat} : ∀ {c : List (Nat × List Nat)}, (∀ e ∈ c, selfB bx ops e = true) → (c.Pairwise fun e f => pairB bx ops A e f = true) → pairsB bx ops A c = true
  | [], _, _ => rfl
  | f :: c, h, k => by
    rw [List.pairwise_cons] at k
    simp only [pairsB, Bool.and_eq_true, List.all_eq_true]
    exact ⟨⟨h f (by simp), k.1⟩, pairsB_of (fun e he => h e (by simp [he])) k.2⟩
end

section
variable {W0 : World} {B : Nat} {M0 : Nat → Option MB} {hp0 : Hp} {w0 : World} {N : Nat} {lv : List Nat} {M M' : Nat → Option MB} {Λ : Nat → Nat} {st : St} {s : RS} {a : Act} {w w' : World} {P : Program} {T : Nat → Option TI}

theorem SX.congr (h : SX W0 B M0 hp0 w0 M Λ s a w) {S : RS} (hsl : S.sl = s.sl) (hhp : S.hp = s.hp) (hdf : S.df = s.df) (hlk : ∀ t, S.look t = s.look t) (hlo : ∀ u c, lkc S.lo u = some c → lkc s.lo u = some c) : SX W0 B M0 hp0 w0 M Λ S a w where
  sr := ⟨by rw [hhp]; exact h.sr.inv, fun t x hx => h.sr.tm t x (by rw [← hlk]; exact hx), fun t c hc => h.sr.box t c (hlo t c hc), fun t u c d h1 h2 => h.sr.boxinj t u c d (hlo _ _ h1) (hlo _ _ h2),
    fun t c hc => by rw [hhp]; exact h.sr.boxown t c (hlo t c hc), by rw [hsl]; exact h.sr.slw, by rw [hdf]; exact h.sr.df⟩
  fr := by rw [hhp]; exact h.fr
  lo := fun t c hc => h.lo t c (hlo t c hc)

theorem getD_set (l : Array Bool) (i j : Nat) (b : Bool) (hi : i < l.size) : (l.setIfInBounds i true).getD j b = if i = j then true else l.getD j b := by
  simp only [Array.getD_eq_getD_getElem?, Array.getElem?_setIfInBounds]
  by_cases h : i = j
  · subst h; simp [hi]
  · simp [h]

theorem any_sound (hT : ∀ t ti, T t = some ti → mkTI P t = some ti) {call : Nat → List AV → Hp → Option (Res × Hp)} (hC : CallOk P W0 B call) {bx : List Nat} {ops : Array Oper} {N : Nat}
    (hdst : ∀ o ∈ ops.toList, ∀ d, o.dst = some d → d < N) (hed : edgesB 0 ops.toList = true) {Q : Exit → Act → World → Prop} {R : ROut} {sl : List Slot}
    (h1 : ∀ s' cm', OutRel ops.toList R (.ok s' cm') → ∀ M' Λ' a' w', SX W0 B M0 hp0 w0 M' Λ' s' a' w' → a'.tmps.size = N → Keys ops.toList s'.env → s'.sl = sl → Q .normal a' w')
    (h2 : ∀ v s', OutRel ops.toList R (.panic v s') → ∀ M' Λ' a' w' v', SX W0 B M0 hp0 w0 M' Λ' s' a' w' → a'.tmps.size = N → Keys ops.toList s'.env → s'.sl = sl → VR W0 B M' v v' → Q (.panic [{ v := v', recovered := false }]) a' w') :
    ∀ (fuel : Nat) (c : List (Nat × List Nat)) (listed : Array Bool) (s : RS) (a : Act) (w : World) (M : Nat → Option MB) (Λ : Nat → Nat) (r : ROut), listed.size = ops.size →
      (∀ i, i ∈ c.map (·.1) ↔ i < ops.size ∧ listed.getD i true = false) → c.length ≤ fuel → pairsB bx ops.toList (ancs ops.toList []) c = true →
      (∀ j o, ops.toList[j]? = some o → listed.getD j false = true → ∀ e ∈ o.after, Region.binds .any e = true → listed.getD e.on false = true) →
      SX W0 B M0 hp0 w0 M Λ s a w → a.tmps.size = N → Keys ops.toList s.env → s.sl = sl →
      runOps T call bx ops.toList (ent ops.toList c) s none = some r → OutRel ops.toList R r → wpAny P .any ops Q fuel listed a w := by
  have fin : ∀ (s : RS) (a : Act) (w : World) (M : Nat → Option MB) (Λ : Nat → Nat) (r : ROut), SX W0 B M0 hp0 w0 M Λ s a w → a.tmps.size = N → Keys ops.toList s.env → s.sl = sl →
      runOps T call bx ops.toList (ent ops.toList []) s none = some r → OutRel ops.toList R r → Q .normal a w := by
    intro s a w M Λ r hS hN hK hsl hr hR
    simp only [ent, List.map_nil, runOps, Option.some.injEq] at hr
    subst hr
    exact h1 s none hR M Λ a w hS hN hK hsl
  intro fuel
  induction fuel with
  | zero =>
    intro c listed s a w M Λ r hsz hc hlen hp hcl hS hN hK hsl hr hR
    have : c = [] := List.eq_nil_of_length_eq_zero (by omega)
    subst this
    refine ⟨?_, fin s a w M Λ r hS hN hK hsl hr hR⟩
    unfold Region.ready
    rw [List.filter_eq_nil_iff]
    intro i hi hready
    simp only [Bool.and_eq_true, Bool.not_eq_eq_eq_not, Bool.not_true] at hready
    have := (hc i).2 ⟨by simpa using hi, hready.1⟩
    simp at this
  | succ fuel ih =>
    intro c listed s a w M Λ r hsz hc hlen hp hcl hS hN hK hsl hr hR
    have hready : ∀ i, i ∈ Region.ready .any ops listed ↔ i < ops.size ∧ listed.getD i true = false ∧ ∃ o, ops[i]? = some o ∧ ∀ e ∈ o.after, Region.binds .any e = true → listed.getD e.on false = true := by
      intro i
      unfold Region.ready
      rw [List.mem_filter]
      simp only [List.mem_range, Bool.and_eq_true, Bool.not_eq_eq_eq_not, Bool.not_true]
      constructor
      · rintro ⟨g1, g2, g3⟩
        refine ⟨g1, g2, ?_⟩
        cases ho : ops[i]? with
        | none => rw [ho] at g3; simp at g3
        | some o =>
          refine ⟨o, rfl, fun e he hb => ?_⟩
          rw [ho] at g3
          simp only [Option.map_some, Option.getD_some, Array.all_eq_true_iff_forall_mem] at g3
          have := g3 e he
          simpa [hb] using this
      · rintro ⟨g1, g2, o, ho, g3⟩
        refine ⟨g1, g2, ?_⟩
        rw [ho]
        simp only [Option.map_some, Option.getD_some, Array.all_eq_true_iff_forall_mem]
        intro e he
        cases hb : Region.binds .any e with
        | false => rfl
        | true => simpa using g3 e he hb
    refine ⟨fun hnil => ?_, fun i hi => ?_⟩
    · -- nothing is ready: nothing is left
      have hall : ∀ n i, i < n → i < ops.size → listed.getD i true = true := by
        intro n
        induction n with
        | zero => intro i h; omega
        | succ n ihn =>
          intro i hin hi
          cases hl : listed.getD i true with
          | true => rfl
          | false =>
            exfalso
            have : i ∈ Region.ready .any ops listed := by
              rw [hready]
              refine ⟨hi, hl, ops[i], Array.getElem?_eq_getElem hi, fun e he hb => ?_⟩
              have hlt := edgesB_get ops.toList 0 i ops[i] hed (by simp [hi]) e he hb
              have := ihn e.on (by omega) (by omega)
              have hes : e.on < listed.size := by omega
              simp only [Array.getD_eq_getD_getElem?, Array.getElem?_eq_getElem hes, Option.getD_some] at this ⊢
              exact this
            rw [hnil] at this
            simp at this
      have : c = [] := by
        cases c with
        | nil => rfl
        | cons e c =>
          exfalso
          have := (hc e.1).1 (by simp)
          rw [hall (e.1 + 1) e.1 (by omega) this.1] at this
          cases this.2
      subst this
      exact fin s a w M Λ r hS hN hK hsl hr hR
    · obtain ⟨hi1, hi2, p, hp1, hi3⟩ := (hready i).1 hi
      have hpl : ops.toList[i]? = some p := by simpa using hp1
      have hmem : i ∈ c.map (·.1) := (hc i).2 ⟨hi1, hi2⟩
      obtain ⟨⟨i', wi⟩, he, rfl⟩ := List.mem_map.1 hmem
      obtain ⟨X, Y, rfl⟩ := List.append_of_mem he
      simp only at hi1 hi2 hp1 hpl hi hmem
      have hself := pairsB_mem hp
      have hpw := pairsB_pw hp
      rw [List.pairwise_append] at hpw
      obtain ⟨hpX, hpY, hpXY⟩ := hpw
      rw [List.pairwise_cons] at hpY
      have hD : ∀ k, Nat.testBit ((ancs ops.toList []).getD i' 0) k = true → listed.getD k false = true :=
        anc_closed hed (D := fun k => listed.getD k false = true) hcl (i' + 1) i' (by omega) p hpl hi3
      have hent : ∀ x ∈ X, ∃ o, ops.toList[x.1]? = some o ∧ ((ops.toList[x.1]?).getD default) = o := by
        intro x hx
        have := hself x (by simp [hx])
        unfold selfB at this
        split at this
        · rename_i o ho; exact ⟨o, ho, by rw [ho]; rfl⟩
        · cases this
      have hsplit : ∀ x ∈ X, ∀ o, ops.toList[x.1]? = some o → (isE bx o = false ∧ (∀ t ∈ names ops.toList p, o.dst ≠ some t) ∧ (isE bx p = true → isLd o = true → x.1 ∈ wi)) ∧ (∀ t ∈ names ops.toList o, p.dst ≠ some t) ∧ (∀ t ∈ uses ops.toList o, o.dst ≠ some t) ∧ (isE bx o = false → x.2 = []) := by
        intro x hx o ho
        have hb := hpXY x hx (i', wi) (by simp)
        have hs := hself x (by simp [hx])
        unfold selfB at hs
        rw [ho] at hs
        unfold pairB at hb
        rw [ho, hpl] at hb
        simp only [Bool.and_eq_true, Bool.or_eq_true, Bool.not_eq_eq_eq_not, Bool.not_true] at hb hs
        refine ⟨?_, dstOut_spec hb.1.2, dstOut_spec hs.1, fun hE => ?_⟩
        · rcases hb.2 with hbit | ⟨⟨g1, g2⟩, g3⟩
          · exfalso
            have := hD x.1 hbit
            have hx2 := (hc x.1).1 (by simp only [List.map_append, List.mem_append, List.mem_map]; exact .inl ⟨x, hx, rfl⟩)
            have hes : x.1 < listed.size := by omega
            simp only [Array.getD_eq_getD_getElem?, Array.getElem?_eq_getElem hes, Option.getD_some] at this hx2
            rw [this] at hx2
            cases hx2.2
          · refine ⟨g1, dstOut_spec g2, fun e1 e2 => ?_⟩
            rcases g3 with g3 | g3
            · rw [e1, e2] at g3; cases g3
            · exact (mem_iff _ _).1 g3
        · rcases hs.2 with g | g
          · rw [hE] at g; cases g
          · simpa using g
      have hE : ∀ z ∈ ent ops.toList X, isE bx z.1 = false := by
        intro z hz
        obtain ⟨x, hx, rfl⟩ := List.mem_map.1 hz
        obtain ⟨o, ho, ho'⟩ := hent x hx
        simp only [ho']
        exact (hsplit x hx o ho).1.1
      have hn : ∀ z ∈ ent ops.toList X, (∀ t ∈ uses ops.toList p, z.1.dst ≠ some t) ∧ (∀ q, p.dst = some q → z.1.dst ≠ some q) ∧ (∀ t ∈ uses ops.toList z.1, p.dst ≠ some t) ∧ (∀ t ∈ uses ops.toList z.1, z.1.dst ≠ some t) ∧ z.2 = [] := by
        intro z hz
        obtain ⟨x, hx, rfl⟩ := List.mem_map.1 hz
        obtain ⟨o, ho, ho'⟩ := hent x hx
        simp only [ho']
        obtain ⟨⟨g1, g2, g3⟩, g4, g5, g6⟩ := hsplit x hx o ho
        exact ⟨fun t ht => g2 t (by simp [names, ht]), fun q hq => g2 q (by simp [names, hq]), fun t ht => g4 t (by simp [names, ht]), g5, g6 g1⟩
      have hpwE : (ent ops.toList X).Pairwise (fun x z => (∀ t ∈ uses ops.toList x.1, z.1.dst ≠ some t) ∧ (∀ t, x.1.dst = some t → z.1.dst ≠ some t)) := by
        unfold ent
        rw [List.pairwise_map]
        refine List.Pairwise.imp_of_mem ?_ hpX
        intro x z hx hz hb
        obtain ⟨o, ho, ho'⟩ := hent x hx
        obtain ⟨o2, ho2, ho2'⟩ := hent z hz
        simp only [ho', ho2']
        unfold pairB at hb
        rw [ho, ho2] at hb
        simp only [Bool.and_eq_true] at hb
        have := dstOut_spec hb.1.2
        exact ⟨fun t ht => this t (by simp [names, ht]), fun t ht => this t (by simp [names, ht])⟩
      have hslw : Slw s.sl := fun i u off h => (hS.sr.slw i u off h).1
      -- the canonical run, cut
      have hcut : ent ops.toList (X ++ (i', wi) :: Y) = ent ops.toList X ++ (p, wi) :: ent ops.toList Y := by simp [ent, hp1]
      rw [hcut, runOps_append] at hr
      have hwcond : ∀ t, t ∈ uses ops.toList p → ∀ z ∈ ent ops.toList X, z.1.dst ≠ some t := fun t ht z hz => (hn z hz).1 t ht
      obtain ⟨SX', hrX⟩ : ∃ S, runOps T call bx ops.toList (ent ops.toList X) s none = some (.ok S none) := by
        cases hq : runOps T call bx ops.toList (ent ops.toList X) s none with
        | none => rw [hq] at hr; simp at hr
        | some q => obtain ⟨S, rfl⟩ := run_nonE _ s hE hq; exact ⟨S, rfl⟩
      rw [hrX] at hr
      simp only at hr
      rw [runOps_cons] at hr
      have hwantX : want ops.toList SX' p = want ops.toList s p := want_congr fun t ht => (pres _ s hslw hE hrX).1 t (hwcond t ht)
      -- the move
      have hmove : ∃ r1, one T call bx ops.toList p s = some r1 ∧ (match r1 with
          | .ok sp _ => ∃ r', runOps T call bx ops.toList (ent ops.toList (X ++ Y)) sp none = some r' ∧ OutRel ops.toList R r'
          | .panic v sp => OutRel ops.toList R (.panic v sp)) := by
        have hr0 : ∀ r0, one T call bx ops.toList p SX' = some r0 → (∀ S cm, r0 = .ok S cm → cm = none) → runOps T call bx ops.toList (ent ops.toList X ++ [(p, [])]) s none = some r0 := by
          intro r0 h hcm
          rw [runOps_append, hrX]
          simp only
          rw [runOps_cons, h]
          cases r0 with
          | panic v S => rfl
          | ok S cm =>
            have := hcm S cm rfl
            subst this
            have : chk T ops.toList p [] SX' S = true := by simp only [chk, reck]; split <;> rfl
            simp only [this, if_true, runOps]
        split at hr
        · rename_i S1 c1 ho1
          have := one_none ho1
          subst this
          split at hr
          · rename_i hchk
            obtain ⟨r1, m1, m2⟩ := move (ent ops.toList X) s hslw hE hn hpwE (hr0 _ ho1 (fun S cm e => by cases e; rfl)) (fun S cm e hEp hwp z hz hld hwz => by
              cases e
              obtain ⟨x, hx, rfl⟩ := List.mem_map.1 hz
              obtain ⟨o, ho, ho'⟩ := hent x hx
              simp only [ho'] at hld hwz ⊢
              have hin := (hsplit x hx o ho).1.2.2 hEp hld
              unfold chk at hchk
              rw [hwantX, hwp] at hchk
              exact reck_spec hchk x.1 hin o ho hwz)
            refine ⟨r1, m1, ?_⟩
            cases r1 with
            | panic v sp => exact m2.elim
            | ok sp c2 =>
              obtain ⟨S', k1, k2⟩ := m2
              obtain ⟨r', q1, q2⟩ := run_congr (ent ops.toList Y) k2 hr
              refine ⟨r', ?_, hR.trans q2.rel⟩
              have : ent ops.toList (X ++ Y) = ent ops.toList X ++ ent ops.toList Y := by simp [ent]
              rw [this, runOps_append, k1]
              exact q1
          · simp at hr
        · rename_i v S1 ho1
          simp only [Option.some.injEq] at hr
          subst hr
          obtain ⟨r1, m1, m2⟩ := move (ent ops.toList X) s hslw hE hn hpwE (hr0 _ ho1 (fun S cm e => by cases e)) (fun S cm e => by cases e)
          refine ⟨r1, m1, ?_⟩
          cases r1 with
          | ok sp c2 => exact m2.elim
          | panic v' sp =>
            obtain ⟨rfl, k1, k2, k3, k4⟩ := m2
            refine hR.trans ⟨rfl, k1, k2, k3, fun u hu => k4 u fun z hz => ?_⟩
            obtain ⟨x, hx, rfl⟩ := List.mem_map.1 hz
            obtain ⟨o, ho, ho'⟩ := hent x hx
            simp only [ho']
            exact hu o (List.mem_of_getElem? ho)
        · simp at hr
      obtain ⟨r1, m1, m2⟩ := hmove
      have hpm : p ∈ ops.toList := List.mem_of_getElem? hpl
      have hd : ∀ u, p.dst = some u → u < a.tmps.size := fun u hu => by rw [hN]; exact hdst p hpm u hu
      -- the step
      have hnext : ∀ sp, (∃ r', runOps T call bx ops.toList (ent ops.toList (X ++ Y)) sp none = some r' ∧ OutRel ops.toList R r') → ∀ M' Λ' a' w', SX W0 B M0 hp0 w0 M' Λ' sp a' w' → a'.tmps.size = N → Keys ops.toList sp.env → sp.sl = sl →
          wpAny P .any ops Q fuel (listed.setIfInBounds i' true) a' w' := by
        rintro sp ⟨r', q1, q2⟩ M' Λ' a' w' g1 g2 g3 g4
        have hil : i' < listed.size := by omega
        have hnd : i' ∉ (X ++ Y).map (·.1) := by
          intro hm
          obtain ⟨z, hz, hzi⟩ := List.mem_map.1 hm
          rcases List.mem_append.1 hz with hz | hz
          · have hb := hpXY z hz (i', wi) (by simp)
            unfold pairB at hb
            split at hb
            · simp only [hzi, beq_self, Bool.not_true, Bool.false_and] at hb; cases hb
            · cases hb
          · have hb := hpY.1 z hz
            unfold pairB at hb
            split at hb
            · simp only [hzi, beq_self, Bool.not_true, Bool.false_and] at hb; cases hb
            · cases hb
        refine ih (X ++ Y) _ sp a' w' M' Λ' r' (by simp [hsz]) (fun k => ?_) (by simp only [List.length_append, List.length_cons] at hlen ⊢; omega) (pairsB_of (fun e he => hself e (by simp only [List.mem_append] at he; simp only [List.mem_append, List.mem_cons]; exact he.imp id .inr)) (List.pairwise_append.2 ⟨hpX, hpY.2, fun x hx y hy => hpXY x hx y (by simp [hy])⟩)) (fun j o ho hj e he hb => ?_) g1 g2 g3 g4 q1 q2
        · rw [getD_set _ _ _ _ hil]
          have hk := hc k
          simp only [List.map_append, List.map_cons, List.mem_append, List.mem_cons] at hk hnd ⊢
          by_cases hik : i' = k
          · subst hik
            simp only [if_true, Bool.true_eq_false, and_false, iff_false]
            exact hnd
          · rw [if_neg hik]
            constructor
            · intro h; exact hk.1 (h.imp id .inr)
            · intro h
              rcases hk.2 h with h | h | h
              · exact .inl h
              · exact absurd h.symm hik
              · exact .inr h
        · rw [getD_set _ _ _ _ hil] at hj ⊢
          split
          · rfl
          · by_cases hij : i' = j
            · subst hij
              rw [hpl] at ho; cases ho
              exact hi3 e he hb
            · rw [if_neg hij] at hj
              exact hcl j o ho hj e he hb
      unfold wpOp
      rw [hp1]
      simp only
      unfold one at m1
      split at m1
      · simp at m1
      · rename_i hw
        simp only [Option.some.injEq] at m1
        subst m1
        rw [if_neg (by rw [want_sound hS.sr hw]; simp)]
        exact hnext _ m2 M Λ _ w (hS.put (x := .v undefA) (.tup [] [] rfl (fun i a v x y => by simp at x)) hd) (by rw [size_put]; exact hN) (hK.step hpm (EnvStep.put p s s _ rfl rfl)) (by rw [← hsl]; cases p.dst <;> rfl)
      · rename_i hw
        rw [if_pos (want_sound hS.sr hw)]
        refine .inl ?_
        cases r1 with
        | ok sp cm =>
          have henv := oop_env m1
          refine oop_sound hT hC hS hd m1 (fun s2 e M' Λ' a' w' g1 g2 => ?_) (fun v s2 e => by cases e)
          cases e
          exact hnext _ m2 M' Λ' a' w' g1 (g2.trans hN) (hK.step hpm henv) (henv.1.trans hsl)
        | panic v sp =>
          obtain ⟨e1, e2⟩ := oop_panic_env m1
          refine oop_sound hT hC hS hd m1 (fun s2 e => by cases e) (fun v2 s2 e M' Λ' w' v' g1 g2 => ?_)
          cases e
          exact h2 _ _ m2 M' Λ' a w' v' g1 hN (by rw [e2]; exact hK) (e1.trans hsl) g2
end
end Go.Eng

/- ENGINE 20: the evaluator is sound, regions that draw among its code. -/
set_option linter.unusedVariables false
set_option linter.unusedSimpArgs false
namespace Go.Eng
open Go

theorem lk_keepLo (ops : List Oper) : ∀ (lo : List (Nat × List AV)) (u : Nat) (c : List AV), lkc (keepLo ops lo) u = some c → lkc lo u = some c ∧ ∀ o ∈ ops, o.dst ≠ some u
  | [], u, c, h => by simp [keepLo, lkc] at h
  | (t, x) :: lo, u, c, h => by
    simp only [keepLo, List.filter_cons] at h
    split at h
    · rename_i hk
      simp only [Bool.not_eq_eq_eq_not, Bool.not_true] at hk
      simp only [lkc] at h ⊢
      cases ht : Nat.beq t u with
      | true =>
        simp only [ht, cond_true] at h ⊢
        have := Nat.eq_of_beq_eq_true ht
        subst this
        refine ⟨h, fun o ho e => ?_⟩
        rw [List.any_eq_false] at hk
        have := hk o ho
        rw [e] at this
        simp at this
      | false =>
        simp only [ht, cond_false] at h ⊢
        exact lk_keepLo ops lo u c h
    · rename_i hk
      obtain ⟨h1, h2⟩ := lk_keepLo ops lo u c h
      refine ⟨?_, h2⟩
      simp only [lkc]
      cases ht : Nat.beq t u with
      | false => simpa using h1
      | true =>
        exfalso
        have := Nat.eq_of_beq_eq_true ht
        subst this
        apply hk
        simp only [Bool.not_eq_eq_eq_not, Bool.not_true, List.any_eq_false]
        intro o ho
        split
        · rename_i d hd
          rw [beq_ne (by rintro rfl; exact h2 o ho hd)]
          simp
        · simp

section
variable {W0 : World} {B : Nat} {P : Program} {T : Nat → Option TI}

theorem draws_ok (hT : ∀ t ti, T t = some ti → mkTI P t = some ti) (hm : P.follows .mixedOrders = true) (bx : List Nat) : DrawsOk P T W0 B bx (drawOk bx) := by
  intro M0 hp0 w0 N lv M Λ st a w call hC h' id ops ho hD h e st' cm hr
  have hdst : ∀ o ∈ ops.toList, ∀ d, o.dst = some d → d < N := by
    intro o hm d hd
    simp only [outOk, Bool.and_eq_true, List.all_eq_true] at ho
    have := ho.1 o hm
    rw [hd] at this
    simp only [Bool.and_eq_true] at this
    exact Nat.le_of_ble_eq_true this.1
  simp only [drawOk, Bool.and_eq_true, List.all_eq_true, List.mem_range] at hD
  obtain ⟨⟨⟨hbl, hed⟩, hall⟩, hpairs⟩ := hD
  unfold runRegion at hr
  simp only [if_true] at hr
  split at hr
  · simp at hr
  · rename_i l hl
    have hl := ent_pick _ hl
    subst hl
    apply wp_region_any hm
    have hidx : ∀ i, i ∈ h'.ord.map (·.1) ↔ i < ops.size ∧ (Array.replicate ops.size false).getD i true = false := by
      intro i
      constructor
      · intro hi
        obtain ⟨e, he, rfl⟩ := List.mem_map.1 hi
        have := pairsB_mem hpairs e he
        unfold selfB at this
        split at this
        · rename_i o ho
          have hlt := (List.getElem?_eq_some_iff.1 ho).1
          simp only [Array.length_toList] at hlt
          exact ⟨hlt, by simp [Array.getD_eq_getD_getElem?, hlt]⟩
        · cases this
      · rintro ⟨hi, _⟩
        exact (mem_iff _ _).1 (hall i hi)
    have hlen : h'.ord.length ≤ ops.size := Nat.le_of_ble_eq_true hbl
    have hcl : ∀ j o, ops.toList[j]? = some o → (Array.replicate ops.size false).getD j false = true → ∀ e ∈ o.after, Region.binds .any e = true → (Array.replicate ops.size false).getD e.on false = true := by
      intro j o _ hj
      simp [Array.getD_eq_getD_getElem?, Array.getElem?_replicate] at hj
      split at hj <;> simp at hj
    split at hr
    · rename_i S cm' hrun
      simp only [Option.some.injEq, Prod.mk.injEq] at hr
      obtain ⟨rfl, rfl, rfl⟩ := hr
      refine any_sound hT hC (bx := bx) (N := N) hdst hed (R := .ok S cm') (sl := st.sl) (fun s' c2 hrel M' Λ' a' w' g1 g2 g3 g4 => ?_) (fun v s' hrel => hrel.elim) ops.size h'.ord _ _ a _ M Λ _ (by simp) hidx hlen hpairs hcl (h.sx.drawn _) h.n (fun t x hx => by simp [lk] at hx) rfl hrun (OutRel.refl _)
      have hA : Ag none false S s' := hrel
      have hsx := g1.congr (S := S) hA.sl hA.hp hA.df (fun t => hA.look (by simp)) (fun u c hc => by
        rcases hA.lo u with ⟨e, _⟩ | e
        · cases e
        · rw [← e]; exact hc)
      have hk : Keys ops.toList S.env := fun t x hx => g3 t x (by rw [← hA.env t (by simp)]; exact hx)
      exact ⟨M', Λ', by have := hsx.out g2 hk ho (by rw [hA.sl, g4]; exact h.lv); rw [show S.sl = st.sl from hA.sl.trans g4] at this; exact this, trivial⟩
    · rename_i v S hrun
      simp only [Option.some.injEq, Prod.mk.injEq] at hr
      obtain ⟨rfl, rfl, rfl⟩ := hr
      refine any_sound hT hC (bx := bx) (N := N) hdst hed (R := .panic v S) (sl := st.sl) (fun s' c2 hrel => hrel.elim) (fun v2 s' hrel M' Λ' a' w' v' g1 g2 g3 g4 g5 => ?_) ops.size h'.ord _ _ a _ M Λ _ (by simp) hidx hlen hpairs hcl (h.sx.drawn _) h.n (fun t x hx => by simp [lk] at hx) rfl hrun (OutRel.refl _)
      obtain ⟨rfl, k1, k2, k3, k4⟩ := hrel
      have hss := g1.outPanic g2 g3 ho (by rw [g4]; exact h.lv)
      refine ⟨M', Λ', ⟨?_, hss.n, fun t y hy => hss.lv t y (by rw [g4]; exact hy)⟩, v', rfl, g5⟩
      refine hss.sx.congr (by simp only [g4]) k1 k2 (fun t => by simp only [RS.look, g4]) (fun u c hc => ?_)
      obtain ⟨q1, q2⟩ := lk_keepLo _ _ _ _ hc
      show lkc s'.lo u = some c
      rw [← k4 u q2]
      exact q1
    · simp at hr

/-- **The evaluator is sound.** -/
theorem eval_sound (hT : ∀ t ti, T t = some ti → mkTI P t = some ti) (hm : P.follows .mixedOrders = true) {F : Nat → Option Func} {H : Nat → FH} (hF : FOk P drawOk F H) (k : Nat) : CallOk P W0 B (evalF T F H k) :=
  evalF_sound hT hF (fun bx => draws_ok hT hm bx) k
end
end Go.Eng

/- ENGINE 21: how a program's own facts are told: functions, hints, types. -/
set_option linter.unusedVariables false
namespace Go.Eng
open Go

def Tr.toL {α : Type} : Tr α → List (Nat × α)
  | .leaf => []
  | .node v l r => (match v with | some x => [(0, x)] | none => []) ++ (l.toL.map fun e => (2 * e.1 + 1, e.2)) ++ (r.toL.map fun e => (2 * e.1 + 2, e.2))
theorem Tr.mem_toL {α : Type} : ∀ (t : Tr α) (n : Nat) (x : α), t.get n = some x → (n, x) ∈ t.toL
  | .leaf, n, x, h => by simp [Tr.get] at h
  | .node v l r, n, x, h => by
    simp only [Tr.get] at h
    simp only [Tr.toL, List.mem_append, List.mem_map]
    cases h0 : Nat.beq n 0 with
    | true =>
      simp only [h0, cond_true] at h
      have := Nat.eq_of_beq_eq_true h0
      subst this
      subst h
      exact .inl (.inl (by simp))
    | false =>
      have hn : n ≠ 0 := by rintro rfl; simp at h0
      simp only [h0, cond_false] at h
      cases h1 : Nat.beq (n % 2) 1 with
      | true =>
        simp only [h1, cond_true] at h
        have := Nat.eq_of_beq_eq_true h1
        refine .inl (.inr ⟨_, Tr.mem_toL l _ x h, ?_⟩)
        simp only [Prod.mk.injEq, and_true]
        omega
      | false =>
        simp only [h1, cond_false] at h
        have : n % 2 ≠ 1 := by intro e; rw [e] at h1; simp at h1
        refine .inr ⟨_, Tr.mem_toL r _ x h, ?_⟩
        simp only [Prod.mk.injEq, and_true]
        omega
def AllM {α : Type} (p : α → Prop) : List α → Prop
  | [] => True
  | a :: l => p a ∧ AllM p l
theorem AllM.mem {α : Type} {p : α → Prop} : ∀ {l : List α}, AllM p l → ∀ a ∈ l, p a
  | [], _, a, h => by simp at h
  | b :: l, h, a, hm => by
    simp only [List.mem_cons] at hm
    rcases hm with rfl | hm
    · exact h.1
    · exact h.2.mem a hm

theorem tr_all {α : Type} {p : Nat → α → Prop} {t : Tr α} {l : List (Nat × α)} (h : t.toL = l) (ha : AllM (fun e => p e.1 e.2) l) (n : Nat) (x : α) (hx : t.get n = some x) : p n x :=
  ha.mem (n, x) (h ▸ t.mem_toL n x hx)
theorem fok_of {P : Program} {t : Tr Func} {H : Nat → FH} {l : List (Nat × Func)} (h : t.toL = l) (ha : AllM (fun e => P.funcs[e.1]? = some e.2) l) (hk : (l.all fun e => fnOk (drawOk (H e.1).bx) (H e.1) e.2) = true) : FOk P drawOk t.get H where
  fn := tr_all (p := fun n x => P.funcs[n]? = some x) h ha
  ok := fun f fn hf => by
    rw [List.all_eq_true] at hk
    exact hk (f, fn) (h ▸ t.mem_toL f fn hf)
end Go.Eng

/- ENGINE 22: more fuel changes no answer; the evaluator without fuel. -/
set_option linter.unusedVariables false
set_option linter.unusedSimpArgs false
namespace Go.Eng
open Go

abbrev CallF := Nat → List AV → Hp → Option (Res × Hp)
def CLe (c d : CallF) : Prop := ∀ f a hp x, c f a hp = some x → d f a hp = some x

section
variable {T : Nat → Option TI} {c d : CallF} {bx : List Nat} {ops : List Oper} {h : FH}

theorem oop_mono (hc : CLe c d) {o : Oper} {s : RS} {cm : Option CM} {r : ROut} (hx : oop T c bx o s cm = some r) : oop T d bx o s cm = some r := by
  unfold oop at hx ⊢
  split at hx <;> try exact hx
  unfold oCall at hx ⊢
  split at hx <;> try exact hx
  unfold oCallV at hx ⊢
  split at hx
  · split at hx
    · rename_i h1; simp only [hc _ _ _ _ h1]; exact hx
    · rename_i h1; simp only [hc _ _ _ _ h1]; exact hx
    · simp at hx
  · simp at hx
theorem runOps_mono (hc : CLe c d) : ∀ (l : List (Oper × List Nat)) {s : RS} {cm : Option CM} {r : ROut}, runOps T c bx ops l s cm = some r → runOps T d bx ops l s cm = some r
  | [], s, cm, r, hx => hx
  | (o, ws) :: l, s, cm, r, hx => by
    simp only [runOps] at hx ⊢
    split at hx
    · simp at hx
    · exact runOps_mono hc l hx
    · split at hx
      · rename_i s' cm' h1
        simp only [oop_mono hc h1]
        split at hx
        · rename_i h2; rw [if_pos h2]; exact runOps_mono hc l hx
        · simp at hx
      · rename_i h1; simp only [oop_mono hc h1]; exact hx
      · simp at hx
theorem runRegion_mono (hc : CLe c d) {rh : RH} {ops : Array Oper} {draw : Bool} {s : St} {cm : Option CM} {x : AExit × St × Option CM} (hx : runRegion T c bx rh ops draw s cm = some x) : runRegion T d bx rh ops draw s cm = some x := by
  unfold runRegion at hx ⊢
  split at hx
  · simp at hx
  · split at hx
    · rename_i h1; simp only [runOps_mono hc _ h1]; exact hx
    · rename_i h1; simp only [runOps_mono hc _ h1]; exact hx
    · simp at hx
theorem iter_mono {f g : St → Option (AExit × St)} (hf : ∀ s x, f s = some x → g s = some x) : ∀ (n m : Nat), n ≤ m → ∀ {s : St} {x : AExit × St}, iter f n s = some x → iter g m s = some x
  | 0, m, _, s, x, h => by simp [iter] at h
  | n + 1, 0, hl, s, x, h => by omega
  | n + 1, m + 1, hl, s, x, h => by
    simp only [iter] at h ⊢
    split at h
    · rename_i s' h1
      rw [hf _ _ h1]
      exact iter_mono hf n m (by omega) h
    · rename_i r hne
      rw [hf _ _ h]
      split
      · rename_i h2; cases h2; exact absurd h (hne _)
      · rfl
theorem execC_mono (hc : CLe c d) {k k' : Nat} (hk : k ≤ k') : ∀ (b : Code) {s : St} {x : AExit × St}, execC T c h k b s = some x → execC T d h k' b s = some x := by
  intro b
  induction b with
  | region id ops draw =>
    intro s x hx
    simp only [execC] at hx ⊢
    split at hx
    · rename_i h1; simp only [runRegion_mono hc h1]; exact hx
    · simp at hx
  | seq a b iha ihb =>
    intro s x hx
    simp only [execC] at hx ⊢
    split at hx
    · rename_i h1; rw [iha h1]; exact ihb hx
    · rename_i r hne
      rw [iha hx]
      split
      · rename_i h2; cases h2; exact absurd hx (hne _)
      · rfl
  | cond cc a b iha ihb =>
    intro s x hx
    simp only [execC] at hx ⊢
    split at hx
    · rename_i t _
      cases t with
      | true => simpa using iha (by simpa using hx)
      | false => simpa using ihb (by simpa using hx)
    · simp at hx
  | block id a iha =>
    intro s x hx
    simp only [execC] at hx ⊢
    split at hx
    · rename_i h1; rw [iha h1]; exact hx
    · rename_i r hne
      rw [iha hx]
      split
      · rename_i h2; cases h2; exact absurd hx (hne _ _)
      · rfl
  | loop a iha =>
    intro s x hx
    simp only [execC] at hx ⊢
    exact iter_mono (fun s x => iha) k k' hk hx
  | _ => intro s x hx; first | exact hx | (simp [execC] at hx)
theorem execS_mono (hc : CLe c d) {k k' : Nat} (hk : k ≤ k') : ∀ (b : Code) {s : St} {cm : CM} {x : AExit × St × CM}, execS T c h k b s cm = some x → execS T d h k' b s cm = some x := by
  have base : ∀ (b : Code) {s : St} {cm : CM} {x : AExit × St × CM}, (match execC T c h k b s with | some (e, s') => some (e, s', cm) | none => none) = some x → (match execC T d h k' b s with | some (e, s') => some (e, s', cm) | none => none) = some x := by
    intro b s cm x hx
    split at hx
    · rename_i h1; rw [execC_mono hc hk b h1]; exact hx
    · simp at hx
  intro b
  induction b with
  | region id ops draw =>
    intro s cm x hx
    cases draw with
    | true => exact base _ hx
    | false =>
      simp only [execS] at hx ⊢
      split at hx
      · rename_i h1; simp only [runRegion_mono hc h1]; exact hx
      · simp at hx
  | seq a b iha ihb =>
    intro s cm x hx
    simp only [execS] at hx ⊢
    split at hx
    · rename_i h1; rw [iha h1]; exact ihb hx
    · rename_i r hne
      rw [iha hx]
      split
      · rename_i h2; cases h2; exact absurd hx (hne _ _)
      · rfl
  | cond cc a b iha ihb =>
    intro s cm x hx
    simp only [execS] at hx ⊢
    split at hx
    · rename_i t _
      cases t with
      | true => simpa using iha (by simpa using hx)
      | false => simpa using ihb (by simpa using hx)
    · simp at hx
  | _ =>
    intro s cm x hx
    simp only [execS] at hx ⊢
    split at hx
    · rename_i h1; rw [execC_mono hc hk _ h1]; exact hx
    · simp at hx
theorem leave_mono {cd cd' : Nat → List AV → CM → Hp → Option (CM × Hp)} (hc : ∀ f a m hp x, cd f a m hp = some x → cd' f a m hp = some x) {fn : Func} {s : St} : ∀ (ds : List (Nat × List AV)) {cm : CM} {hp : Hp} {x : Res × Hp},
    leave T cd fn s ds cm hp = some x → leave T cd' fn s ds cm hp = some x
  | [], cm, hp, x, hx => by cases cm <;> exact hx
  | (f, args) :: ds, cm, hp, x, hx => by
    simp only [leave] at hx ⊢
    split at hx
    · rename_i h1; simp only [hc _ _ _ _ _ h1]; exact leave_mono hc ds hx
    · simp at hx

variable {F : Nat → Option Func} {H : Nat → FH}
theorem callD_mono (hc : CLe c d) {k k' : Nat} (hk : k ≤ k') {f : Nat} {args : List AV} {cm : CM} {hp : Hp} {x : CM × Hp} (hx : callD T F H c k f args cm hp = some x) : callD T F H d k' f args cm hp = some x := by
  unfold callD at hx ⊢
  split at hx
  · cases hl : !Nat.beq args.length (arity _) with
    | true => simp only [hl, cond_true] at hx; cases hx
    | false =>
      simp only [hl, cond_false] at hx ⊢
      split at hx
      · split at hx
        · rename_i h1; simp only [execS_mono hc hk _ h1]; exact hx
        · rename_i h1; simp only [execS_mono hc hk _ h1]; exact hx
        · simp at hx
      · simp at hx
  · simp at hx
theorem evalF_mono : ∀ (k k' : Nat), k ≤ k' → CLe (evalF T F H k) (evalF T F H k')
  | 0, k', _ => by intro f a hp x hx; simp [evalF] at hx
  | k + 1, 0, hk => by omega
  | k + 1, k' + 1, hk => by
    have ih := evalF_mono k k' (by omega)
    have hcd : ∀ f a m hp x, callD T F H (evalF T F H k) k f a m hp = some x → callD T F H (evalF T F H k') k' f a m hp = some x := fun f a m hp x => callD_mono ih (by omega)
    intro f args hp x hx
    simp only [evalF] at hx ⊢
    split at hx
    · cases hl : !Nat.beq args.length (arity _) with
      | true => simp only [hl, cond_true] at hx; cases hx
      | false =>
        simp only [hl, cond_false] at hx ⊢
        split at hx
        · split at hx
          · rename_i h1; simp only [execC_mono ih (show k ≤ k' by omega) _ h1]; exact leave_mono hcd _ hx
          · rename_i h1; simp only [execC_mono ih (show k ≤ k' by omega) _ h1]; exact leave_mono hcd _ hx
          · rename_i h1; simp only [execC_mono ih (show k ≤ k' by omega) _ h1]; exact leave_mono hcd _ hx
          · simp at hx
        · simp at hx
    · simp at hx
end

/-! #### Without fuel -/
open Classical in
noncomputable def lim {α : Type} (f : Nat → Option α) : Option α := if h : ∃ k x, f k = some x then f h.choose else none
theorem lim_iff {α : Type} {f : Nat → Option α} (hm : ∀ k k', k ≤ k' → ∀ x, f k = some x → f k' = some x) {x : α} : lim f = some x ↔ ∃ k, f k = some x := by
  unfold lim
  constructor
  · intro h
    split at h
    · exact ⟨_, h⟩
    · cases h
  · rintro ⟨k, hk⟩
    have hex : ∃ k x, f k = some x := ⟨k, x, hk⟩
    rw [dif_pos hex]
    obtain ⟨y, hy⟩ := hex.choose_spec
    rcases Nat.le_total k hex.choose with h | h
    · exact hm _ _ h _ hk
    · have := hm _ _ h _ hy
      rw [hk] at this
      rw [hy, ← this]

section
variable (T : Nat → Option TI) (F : Nat → Option Func) (H : Nat → FH)
noncomputable def evalL (f : Nat) (args : List AV) (hp : Hp) : Option (Res × Hp) := lim fun k => evalF T F H k f args hp
theorem evalL_iff {f : Nat} {args : List AV} {hp : Hp} {x : Res × Hp} : evalL T F H f args hp = some x ↔ ∃ k, evalF T F H k f args hp = some x :=
  lim_iff fun k k' hk x => evalF_mono k k' hk f args hp x
noncomputable def iterL (f : St → Option (AExit × St)) (s : St) : Option (AExit × St) := lim fun n => iter f n s
theorem iterL_iff {f : St → Option (AExit × St)} {s : St} {x : AExit × St} : iterL f s = some x ↔ ∃ n, iter f n s = some x :=
  lim_iff fun k k' hk x => iter_mono (fun _ _ h => h) k k' hk

noncomputable def execL (call : CallF) (h : FH) : Code → St → Option (AExit × St)
  | .skip, s => some (.normal, s)
  | .region id ops draw, s => match runRegion T call h.bx (h.rh id) ops draw s none with
    | some (e, s', _) => some (e, s')
    | none => none
  | .seq a b, s => match execL call h a s with
    | some (.normal, s') => execL call h b s'
    | r => r
  | .cond c a b, s => match slotS s.sl c with
    | some (.v (.bool t)) => if t then execL call h a s else execL call h b s
    | _ => none
  | .block id c, s => match execL call h c s with
    | some (.exit i, s') => bif Nat.beq i id then some (.normal, s') else some (.exit i, s')
    | r => r
  | .loop c, s => iterL (execL call h c) s
  | .exit id, s => some (.exit id, s)
  | .ret, s => some (.ret, s)
  | _, _ => none

noncomputable def execSL (call : CallF) (h : FH) : Code → St → CM → Option (AExit × St × CM)
  | .seq a b, s, cm => match execSL call h a s cm with
    | some (.normal, s', cm') => execSL call h b s' cm'
    | r => r
  | .cond c a b, s, cm => match slotS s.sl c with
    | some (.v (.bool t)) => if t then execSL call h a s cm else execSL call h b s cm
    | _ => none
  | .region id ops false, s, cm => match runRegion T call h.bx (h.rh id) ops false s (some cm) with
    | some (e, s', some cm') => some (e, s', cm')
    | _ => none
  | c, s, cm => match execL T call h c s with
    | some (e, s') => some (e, s', cm)
    | none => none
noncomputable def callDL (call : CallF) (f : Nat) (args : List AV) (cm : CM) (hp : Hp) : Option (CM × Hp) :=
  match F f with
  | some fn => bif !Nat.beq args.length (arity fn) then none else match fn.body with
    | some c => match execSL T call (H f) c (st0 fn args hp) cm with
      | some (.normal, s, cm') | some (.ret, s, cm') => if s.df.isEmpty then (match resV T s fn.results.toList with | some _ => some (cm', s.hp) | none => none) else none
      | _ => none
    | none => none
  | none => none
end

section
variable {T : Nat → Option TI} {F : Nat → Option Func} {H : Nat → FH} {bx : List Nat} {ops : List Oper} {h : FH}
/-- What holds of the evaluator without fuel at one place holds of it with fuel enough. -/
theorem oop_fin {o : Oper} {s : RS} {cm : Option CM} {r : ROut} (hx : oop T (evalL T F H) bx o s cm = some r) : ∃ k, oop T (evalF T F H k) bx o s cm = some r := by
  unfold oop at hx ⊢
  split at hx <;> try exact ⟨0, hx⟩
  unfold oCall at hx ⊢
  split at hx <;> try exact ⟨0, hx⟩
  unfold oCallV at hx ⊢
  split at hx
  · split at hx
    · rename_i h1
      obtain ⟨k, hk⟩ := (evalL_iff T F H).1 h1
      exact ⟨k, by simp only [hk]; exact hx⟩
    · rename_i h1
      obtain ⟨k, hk⟩ := (evalL_iff T F H).1 h1
      exact ⟨k, by simp only [hk]; exact hx⟩
    · simp at hx
  · simp at hx
theorem runOps_fin : ∀ (l : List (Oper × List Nat)) {s : RS} {cm : Option CM} {r : ROut}, runOps T (evalL T F H) bx ops l s cm = some r → ∃ k, runOps T (evalF T F H k) bx ops l s cm = some r
  | [], s, cm, r, hx => ⟨0, hx⟩
  | (o, ws) :: l, s, cm, r, hx => by
    simp only [runOps] at hx ⊢
    split at hx
    · simp at hx
    · exact runOps_fin l hx
    · split at hx
      · rename_i s' cm' h1
        obtain ⟨k1, hk1⟩ := oop_fin h1
        split at hx
        · rename_i h2
          obtain ⟨k2, hk2⟩ := runOps_fin l hx
          refine ⟨max k1 k2, ?_⟩
          simp only [oop_mono (evalF_mono _ _ (Nat.le_max_left k1 k2)) hk1, h2, if_true]
          exact runOps_mono (evalF_mono _ _ (Nat.le_max_right k1 k2)) l hk2
        · simp at hx
      · rename_i h1
        obtain ⟨k1, hk1⟩ := oop_fin h1
        exact ⟨k1, by simp only [hk1]; exact hx⟩
      · simp at hx
theorem runRegion_fin {rh : RH} {ops : Array Oper} {draw : Bool} {s : St} {cm : Option CM} {x : AExit × St × Option CM} (hx : runRegion T (evalL T F H) bx rh ops draw s cm = some x) : ∃ k, runRegion T (evalF T F H k) bx rh ops draw s cm = some x := by
  unfold runRegion at hx ⊢
  split at hx
  · simp at hx
  · split at hx
    · rename_i h1
      obtain ⟨k, hk⟩ := runOps_fin _ h1
      exact ⟨k, by simp only [hk]; exact hx⟩
    · rename_i h1
      obtain ⟨k, hk⟩ := runOps_fin _ h1
      exact ⟨k, by simp only [hk]; exact hx⟩
    · simp at hx
theorem exec_up {b : Code} {s : St} {x : AExit × St} {k k' : Nat} (hk : k ≤ k') (hx : execC T (evalF T F H k) h k b s = some x) : execC T (evalF T F H k') h k' b s = some x := execC_mono (evalF_mono k k' hk) hk b hx
theorem execL_fin : ∀ (b : Code) {s : St} {x : AExit × St}, execL T (evalL T F H) h b s = some x → ∃ k, execC T (evalF T F H k) h k b s = some x := by
  intro b
  induction b with
  | region id ops draw =>
    intro s x hx
    simp only [execL] at hx
    split at hx
    · rename_i h1
      obtain ⟨k, hk⟩ := runRegion_fin h1
      exact ⟨k, by simp only [execC, hk]; exact hx⟩
    · simp at hx
  | seq a b iha ihb =>
    intro s x hx
    simp only [execL] at hx
    split at hx
    · rename_i h1
      obtain ⟨k1, hk1⟩ := iha h1
      obtain ⟨k2, hk2⟩ := ihb hx
      refine ⟨max k1 k2, ?_⟩
      simp only [execC, exec_up (Nat.le_max_left k1 k2) hk1]
      exact exec_up (Nat.le_max_right k1 k2) hk2
    · rename_i r hne
      obtain ⟨k1, hk1⟩ := iha hx
      refine ⟨k1, ?_⟩
      simp only [execC, hk1]
      split
      · rename_i h2; cases h2; exact absurd hx (hne _)
      · rfl
  | cond cc a b iha ihb =>
    intro s x hx
    simp only [execL] at hx
    split at hx
    · rename_i t ht
      cases t with
      | true =>
        obtain ⟨k1, hk1⟩ := iha (by simpa using hx)
        exact ⟨k1, by simp only [execC, ht, if_true]; exact hk1⟩
      | false =>
        obtain ⟨k1, hk1⟩ := ihb (by simpa using hx)
        exact ⟨k1, by simp only [execC, ht, Bool.false_eq_true, if_false]; exact hk1⟩
    · simp at hx
  | block id a iha =>
    intro s x hx
    simp only [execL] at hx
    split at hx
    · rename_i h1
      obtain ⟨k1, hk1⟩ := iha h1
      exact ⟨k1, by simp only [execC, hk1]; exact hx⟩
    · rename_i r hne
      obtain ⟨k1, hk1⟩ := iha hx
      refine ⟨k1, ?_⟩
      simp only [execC, hk1]
      split
      · rename_i h2; cases h2; exact absurd hx (hne _ _)
      · rfl
  | loop a iha =>
    intro s x hx
    simp only [execL] at hx
    obtain ⟨n, hn⟩ := iterL_iff.1 hx
    have key : ∀ (n : Nat) {s : St}, iter (execL T (evalL T F H) h a) n s = some x → ∃ k, iter (execC T (evalF T F H k) h k a) k s = some x := by
      intro n
      induction n with
      | zero => intro s hn; simp [iter] at hn
      | succ n ihn =>
        intro s hn
        simp only [iter] at hn
        split at hn
        · rename_i s' h1
          obtain ⟨k1, hk1⟩ := iha h1
          obtain ⟨k2, hk2⟩ := ihn hn
          refine ⟨max k1 k2 + 1, ?_⟩
          simp only [iter, exec_up (show k1 ≤ max k1 k2 + 1 by omega) hk1]
          exact iter_mono (fun s x hh => exec_up (show k2 ≤ max k1 k2 + 1 by omega) hh) k2 _ (by omega) hk2
        · rename_i r hne
          obtain ⟨k1, hk1⟩ := iha hn
          refine ⟨k1 + 1, ?_⟩
          simp only [iter, exec_up (Nat.le_succ k1) hk1]
          split
          · rename_i h2; cases h2; exact absurd hn (hne _)
          · rfl
    obtain ⟨k, hk⟩ := key n hn
    exact ⟨k, by simp only [execC]; exact hk⟩
  | _ => intro s x hx; first | exact ⟨0, hx⟩ | (simp [execL] at hx)
theorem execS_up {b : Code} {s : St} {cm : CM} {x : AExit × St × CM} {k k' : Nat} (hk : k ≤ k') (hx : execS T (evalF T F H k) h k b s cm = some x) : execS T (evalF T F H k') h k' b s cm = some x := execS_mono (evalF_mono k k' hk) hk b hx
theorem execSL_fin : ∀ (b : Code) {s : St} {cm : CM} {x : AExit × St × CM}, execSL T (evalL T F H) h b s cm = some x → ∃ k, execS T (evalF T F H k) h k b s cm = some x := by
  have base : ∀ (b : Code) {s : St} {cm : CM} {x : AExit × St × CM}, (match execL T (evalL T F H) h b s with | some (e, s') => some (e, s', cm) | none => none) = some x → ∃ k, (match execC T (evalF T F H k) h k b s with | some (e, s') => some (e, s', cm) | none => none) = some x := by
    intro b s cm x hx
    split at hx
    · rename_i h1
      obtain ⟨k, hk⟩ := execL_fin b h1
      exact ⟨k, by rw [hk]; exact hx⟩
    · simp at hx
  intro b
  induction b with
  | region id ops draw =>
    intro s cm x hx
    cases draw with
    | true => exact base _ hx
    | false =>
      simp only [execSL] at hx
      split at hx
      · rename_i h1
        obtain ⟨k, hk⟩ := runRegion_fin h1
        exact ⟨k, by simp only [execS, hk]; exact hx⟩
      · simp at hx
  | seq a b iha ihb =>
    intro s cm x hx
    simp only [execSL] at hx
    split at hx
    · rename_i h1
      obtain ⟨k1, hk1⟩ := iha h1
      obtain ⟨k2, hk2⟩ := ihb hx
      refine ⟨max k1 k2, ?_⟩
      simp only [execS, execS_up (Nat.le_max_left k1 k2) hk1]
      exact execS_up (Nat.le_max_right k1 k2) hk2
    · rename_i r hne
      obtain ⟨k1, hk1⟩ := iha hx
      refine ⟨k1, ?_⟩
      simp only [execS, hk1]
      split
      · rename_i h2; cases h2; exact absurd hx (hne _ _)
      · rfl
  | cond cc a b iha ihb =>
    intro s cm x hx
    simp only [execSL] at hx
    split at hx
    · rename_i t ht
      cases t with
      | true =>
        obtain ⟨k1, hk1⟩ := iha (by simpa using hx)
        exact ⟨k1, by simp only [execS, ht, if_true]; exact hk1⟩
      | false =>
        obtain ⟨k1, hk1⟩ := ihb (by simpa using hx)
        exact ⟨k1, by simp only [execS, ht, Bool.false_eq_true, if_false]; exact hk1⟩
    · simp at hx
  | _ =>
    intro s cm x hx
    simp only [execSL] at hx
    split at hx
    · rename_i h1
      obtain ⟨k, hk⟩ := execL_fin _ h1
      refine ⟨k, ?_⟩
      simp only [execS]
      rw [hk]; exact hx
    · simp at hx
theorem callDL_fin {f : Nat} {args : List AV} {cm : CM} {hp : Hp} {x : CM × Hp} (hx : callDL T F H (evalL T F H) f args cm hp = some x) : ∃ k, callD T F H (evalF T F H k) k f args cm hp = some x := by
  unfold callDL at hx
  split at hx
  · rename_i fn hfn
    cases hl : !Nat.beq args.length (arity fn) with
    | true => simp only [hl, cond_true] at hx; cases hx
    | false =>
      simp only [hl, cond_false] at hx
      split at hx
      · rename_i b hb
        split at hx
        · rename_i h1
          obtain ⟨k, hk⟩ := execSL_fin b h1
          exact ⟨k, by simp only [callD, hfn, hl, cond_false, hb, hk]; exact hx⟩
        · rename_i h1
          obtain ⟨k, hk⟩ := execSL_fin b h1
          exact ⟨k, by simp only [callD, hfn, hl, cond_false, hb, hk]; exact hx⟩
        · simp at hx
      · simp at hx
  · simp at hx
theorem leaveL_fin {fn : Func} {s : St} : ∀ (ds : List (Nat × List AV)) {cm : CM} {hp : Hp} {x : Res × Hp}, leave T (callDL T F H (evalL T F H)) fn s ds cm hp = some x → ∃ k, leave T (callD T F H (evalF T F H k) k) fn s ds cm hp = some x
  | [], cm, hp, x, hx => ⟨0, by cases cm <;> exact hx⟩
  | (f, args) :: ds, cm, hp, x, hx => by
    simp only [leave] at hx ⊢
    split at hx
    · rename_i h1
      obtain ⟨k1, hk1⟩ := callDL_fin h1
      obtain ⟨k2, hk2⟩ := leaveL_fin ds hx
      refine ⟨max k1 k2, ?_⟩
      simp only [callD_mono (evalF_mono _ _ (Nat.le_max_left k1 k2)) (Nat.le_max_left k1 k2) hk1]
      exact leave_mono (fun f a m hp x => callD_mono (evalF_mono _ _ (Nat.le_max_right k1 k2)) (Nat.le_max_right k1 k2)) ds hk2
    · simp at hx

/-- How a function ends. -/
def endCM : AExit → Option CM
  | .normal | .ret => some .ret
  | .panic v => some (.pan v)
  | .exit _ => none
/-- **A function's answer, out of its code.** -/
theorem evalL_of {f : Nat} {fn : Func} {b : Code} {args : List AV} {hp : Hp} {e : AExit} {s : St} {cm : CM} {x : Res × Hp} (hf : F f = some fn) (hl : Nat.beq args.length (arity fn) = true) (hb : fn.body = some b)
    (hx : execL T (evalL T F H) (H f) b (st0 fn args hp) = some (e, s)) (he : endCM e = some cm) (hv : leave T (callDL T F H (evalL T F H)) fn s s.df cm s.hp = some x) : evalL T F H f args hp = some x := by
  rw [evalL_iff]
  obtain ⟨k1, hk1⟩ := execL_fin b hx
  obtain ⟨k2, hk2⟩ := leaveL_fin s.df hv
  refine ⟨max k1 k2 + 1, ?_⟩
  have h1 := exec_up (h := H f) (Nat.le_max_left k1 k2) hk1
  have h2 := leave_mono (T := T) (fn := fn) (s := s) (cd' := callD T F H (evalF T F H (max k1 k2)) (max k1 k2)) (fun f a m hp x => callD_mono (evalF_mono _ _ (Nat.le_max_right k1 k2)) (Nat.le_max_right k1 k2)) s.df hk2
  simp only [evalF, hf, hl, Bool.not_true, cond_false, hb, h1]
  cases e <;> simp only [endCM, Option.some.injEq, reduceCtorEq] at he <;> subst he <;> exact h2

theorem evalL_sound {P : Program} {W0 : World} {B : Nat} (hT : ∀ t ti, T t = some ti → mkTI P t = some ti) (hm : P.follows .mixedOrders = true) (hF : FOk P drawOk F H) : CallOk P W0 B (evalL T F H) := by
  intro f args hp r hp' hx
  obtain ⟨k, hk⟩ := (evalL_iff T F H).1 hx
  exact eval_sound hT hm hF k f args hp r hp' hk
end
end Go.Eng

/- ENGINE 23: rules by which a law walks through code: states that name only what is known. -/
set_option linter.unusedVariables false
set_option linter.unusedSimpArgs false
namespace Go.Eng
open Go

structure AS where
  sl : List (Nat × Slot)
  env : List (Nat × Slot)
  lo : List (Nat × List AV)
  hp : Hp
  df : List (Nat × List AV)
def AS.slot (s : AS) : Operand → Option Slot
  | .tmp t => match lk s.env t with | some x => some x | none => lk s.sl t
  | .const v => (ofV v).map Slot.v
  | .func f => some (.v (.fn f []))
  | .global _ => none
def AS.val (s : AS) (x : Operand) : Option AV := match s.slot x with | some (.v y) => some y | _ => none
def AS.vals (s : AS) : List Operand → Option (List AV)
  | [] => some []
  | x :: r => match s.val x with
    | some v => (s.vals r).map fun l => v :: l
    | none => none
def AS.pairs (s : AS) : List (Nat × Operand) → Option (List (Nat × AV))
  | [] => some []
  | (i, x) :: r => match s.val x with
    | some v => (s.pairs r).map fun l => (i, v) :: l
    | none => none
def AS.opt (s : AS) : Option Operand → Option (Option AV)
  | none => some none
  | some x => (s.val x).map some
def AS.put (s : AS) (d : Option Nat) (x : Slot) : AS := match d with | some t => { s with env := (t, x) :: s.env } | none => s

structure Rep (s : AS) (r : RS) : Prop where
  env : r.env = s.env
  sl : ∀ t y, lk s.sl t = some y → r.sl[t]? = some y
  lo : ∀ u c, lkc s.lo u = some c → lkc r.lo u = some c
  hp : r.hp = s.hp
  df : r.df = s.df

section
variable {T : Nat → Option TI} {call : CallF} {bx : List Nat} {ops : List Oper} {s s' : AS} {r : RS} {y : Slot} {v : AV}

theorem Rep.slot (h : Rep s r) {x : Operand} (hs : s.slot x = some y) : r.slot x = some y := by
  cases x with
  | tmp t =>
    simp only [AS.slot, RS.slot, h.env] at hs ⊢
    split at hs
    · rename_i z hz; simp only [hz]; exact hs
    · rename_i hz; simp only [hz]; exact h.sl t y hs
  | const v => exact hs
  | func f => exact hs
  | global g => cases hs
theorem Rep.val (h : Rep s r) {x : Operand} (hs : s.val x = some v) : r.val x = some v := by
  unfold AS.val at hs
  unfold RS.val
  split at hs
  · rename_i z hz; rw [h.slot hz]; exact hs
  · cases hs
theorem Rep.vals (h : Rep s r) : ∀ {l : List Operand} {vs : List AV}, s.vals l = some vs → valsV r l = some vs
  | [], vs, hs => hs
  | x :: l, vs, hs => by
    simp only [AS.vals] at hs
    split at hs
    · rename_i z hz
      simp only [Option.map_eq_some_iff] at hs
      obtain ⟨l', h1, rfl⟩ := hs
      simp only [valsV, h.val hz, h.vals h1, Option.map_some]
    · cases hs
theorem Rep.pairs (h : Rep s r) : ∀ {l : List (Nat × Operand)} {vs : List (Nat × AV)}, s.pairs l = some vs → pairsV r l = some vs
  | [], vs, hs => hs
  | (i, x) :: l, vs, hs => by
    simp only [AS.pairs] at hs
    split at hs
    · rename_i z hz
      simp only [Option.map_eq_some_iff] at hs
      obtain ⟨l', h1, rfl⟩ := hs
      simp only [pairsV, h.val hz, h.pairs h1, Option.map_some]
    · cases hs
theorem Rep.opt (h : Rep s r) {x : Option Operand} {w : Option AV} (hs : s.opt x = some w) : optV r x = some w := by
  cases x with
  | none => exact hs
  | some x =>
    simp only [AS.opt, Option.map_eq_some_iff] at hs
    obtain ⟨z, hz, rfl⟩ := hs
    simp only [optV, h.val hz, Option.map_some]
theorem Rep.put (h : Rep s r) (d : Option Nat) (x : Slot) : Rep (s.put d x) (r.put d x) := by
  cases d with
  | none => exact h
  | some t => exact ⟨by simp only [RS.put, AS.put, h.env], h.sl, h.lo, h.hp, h.df⟩

/-! #### What an operation that only reads yields -/
def POp (T : Nat → Option TI) (s : AS) (op : Op) (y : Slot) : Prop := ∀ r, Rep s r → rop T r op = some y
theorem pMove {x : Operand} (h : s.val x = some v) : POp T s (.move x) (.v v) := fun r hr => by simp only [rop, rMove, hr.val h, Option.map_some]
theorem pAssign {x : Operand} (h : s.val x = some v) : POp T s (.assign x) (.v v) := fun r hr => by simp only [rop, rMove, hr.val h, Option.map_some]
theorem pPickT {c a b : Operand} {p : Bool} (hc : s.val c = some (.bool p)) (hp : p = true) (h : s.val a = some v) : POp T s (.pick c a b) (.v v) := fun r hr => by simp only [rop, rPick, hr.val hc, hp, cond_true, hr.val h, Option.map_some]
theorem pPickF {c a b : Operand} {p : Bool} (hc : s.val c = some (.bool p)) (hp : p = false) (h : s.val b = some v) : POp T s (.pick c a b) (.v v) := fun r hr => by simp only [rop, rPick, hr.val hc, hp, cond_false, hr.val h, Option.map_some]
theorem pPick {c a b : Operand} {p : Bool} {u w : AV} (hc : s.val c = some (.bool p)) (ha : p = true → s.val a = some u) (hb : p = false → s.val b = some w) : POp T s (.pick c a b) (.v (bif p then u else w)) := fun r hr => by
  cases p with
  | true => simp only [rop, rPick, hr.val hc, cond_true, hr.val (ha rfl), Option.map_some]
  | false => simp only [rop, rPick, hr.val hc, cond_false, hr.val (hb rfl), Option.map_some]
theorem pLoadV {t : Nat} {a : Operand} {ti : TI} {p : AV} {cs : List AV} (hT : T t = some ti) (ha : s.slot a = some (.v p)) (hrd : RS.rd ⟨[], [], [], s.hp, []⟩ (.v p) ti.size = some cs) (hm : mkv ti cs = some v) : POp T s (.load t a) (.v v) := fun r hr => by
  have : r.rd (.v p) ti.size = some cs := by
    rw [← hrd]
    cases p <;> simp only [RS.rd, hr.hp]
  simp only [rop, rLoad, hT, hr.slot ha, this, hm, Option.map_some]
theorem pLoadL {t : Nat} {a : Operand} {ti : TI} {u off : Nat} {c cs : List AV} (hT : T t = some ti) (ha : s.slot a = some (.lr u off)) (hl : lkc s.lo u = some c) (hp : part c off ti.size = some cs) (hm : mkv ti cs = some v) : POp T s (.load t a) (.v v) := fun r hr => by
  simp only [rop, rLoad, hT, hr.slot ha, RS.rd, hr.lo u c hl, hp, hm, Option.map_some]
theorem pNil {x : Operand} (h : s.slot x = some y) (ha : isAddr y = true) : POp T s (.nilCheck x) y := fun r hr => by simp only [rop, rNil, hr.slot h, ha, cond_true]
theorem pBin {op : BinOp} {t u : Nat} {x z : Operand} {a b : AV} (hx : s.val x = some a) (hz : s.val z = some b) (h : binF T op t x z a b = some v) : POp T s (.binOp op t x z u) (.v v) := fun r hr => by
  simp only [rop, rBin, hr.val hx, hr.val hz, h, Option.map_some]
theorem pNot {t : Nat} {x : Operand} {b : Bool} (hx : s.val x = some (.bool b)) : POp T s (.unOp .not t x) (.v (.bool (!b))) := fun r hr => by simp only [rop, rUn, hr.val hx]
theorem pNeg {t : Nat} {x : Operand} {k : IntKind} {n : Int} (hx : s.val x = some (.int k n)) : POp T s (.unOp .neg t x) (.v (.int k (fwrap k (0 - n)))) := fun r hr => by simp only [rop, rUn, hr.val hx]
theorem pConv {a b : Nat} {x : Operand} {u : AV} (hx : s.val x = some u) (h : convF T a b u = some v) : POp T s (.convert a b x) (.v v) := fun r hr => by simp only [rop, rConv, hr.val hx, h, Option.map_some]
theorem pFieldAddr {t f : Nat} {x : Operand} {ti : TI} {a : Slot} {fs : List (Nat × Nat × Bool)} {off n : Nat} {ia : Bool} (hT : T t = some ti) (hx : s.slot x = some a) (hk : ti.k = .agg fs) (hf : fs[f]? = some (off, n, ia)) (hn : Nat.beq n 0 = false) (ha : addA a off = some y) : POp T s (.fieldAddr t x f) y := fun r hr => by
  simp only [rop, rFieldAddr, hT, hr.slot hx, hk, hf, hn, cond_false, ha]
theorem pField {t f : Nat} {x : Operand} {ti : TI} {cs : List AV} {fs : List (Nat × Nat × Bool)} {off n : Nat} {ia : Bool} (hT : T t = some ti) (hx : s.val x = some (.agg cs)) (hk : ti.k = .agg fs) (hf : fs[f]? = some (off, n, ia)) (ha : partA cs off n ia = some y) : POp T s (.field t x f) y := fun r hr => by
  simp only [rop, rField, hT, hr.val hx, hk, hf, ha]
theorem pIndexAddr {t : Nat} {x i : Operand} {a : Slot} {k : IntKind} {n : Int} (hx : s.slot x = some a) (hi : s.val i = some (.int k n)) (h : idxF T t a n = some y) : POp T s (.indexAddr t x i) y := fun r hr => by
  simp only [rop, rIndexAddr, hr.slot hx, hr.val hi, h]
theorem pIndexS {t : Nat} {x i : Operand} {ti : TI} {l : List UInt8} {k : IntKind} {n : Int} {b : UInt8} (hT : T t = some ti) (hx : s.val x = some (.str l)) (hi : s.val i = some (.int k n)) (hk : ti.k = .str) (h0 : 0 ≤ n) (hb : l[n.toNat]? = some b) : POp T s (.index t x i) (.v (.int .u8 b.toNat)) := fun r hr => by
  simp only [rop, rIndex, hT, hr.val hx, hr.val hi, hk, if_pos h0, hb]
theorem pSlice {t : Nat} {x : Operand} {lo hi mx : Option Operand} {u : AV} {l h m : Option AV} (hc : (mx.isSome && !hi.isSome) = false) (hx : s.val x = some u) (hl : s.opt lo = some l) (hh : s.opt hi = some h) (hm : s.opt mx = some m) (hf : sliceF T t u l h m = some v) : POp T s (.slice t x lo hi mx) (.v v) := fun r hr => by
  simp only [rop, rSlice, hc, cond_false, hr.val hx, hr.opt hl, hr.opt hh, hr.opt hm, hf, Option.map_some]
theorem pExtract {x : Operand} {i : Nat} {vs : List AV} (hx : s.val x = some (.tup vs)) (h : vs[i]? = some v) : POp T s (.extract x i) (.v v) := fun r hr => by
  simp only [rop, rExtract, hr.val hx, h, Option.map_some]
theorem pMakeI {t : Nat} {x : Operand} {ti : TI} (hT : T t = some ti) (hx : s.val x = some v) (hk : ti.k ≠ .iface) : POp T s (.makeInterface t x) (.v (.iface t v)) := fun r hr => by
  simp only [rop, rMakeI, hT, hr.val hx]
theorem pMakeF {f : Nat} {first cap : Array Operand} {c : List AV} (h1 : s.vals first.toList = some []) (h2 : s.vals cap.toList = some c) : POp T s (.makeFunc (.func f) first cap) (.v (.fn f c)) := fun r hr => by
  simp only [rop, rMakeF, hr.vals h1, hr.vals h2]
theorem pBuild {t : Nat} {ps : Array (Nat × Operand)} {l : List (Nat × AV)} (h1 : s.pairs ps.toList = some l) (h2 : buildF T t l = some v) : POp T s (.build t ps) (.v v) := fun r hr => by
  simp only [rop, rBuild, hr.pairs h1, h2, Option.map_some]
theorem pAssert {x : Operand} {t0 t : Nat} {ok : Bool} {u : Nat} {ti : TI} {w : AV} (hx : s.val x = some (.iface u w)) (hT : T t = some ti) (hk : ti.k ≠ .iface) (hu : Nat.beq u t = true) (hv : (bif ok then AV.tup [w, .bool true] else w) = v) : POp T s (.typeAssert x t0 t ok) (.v v) := fun r hr => by
  simp only [rop, rAssert, hr.val hx, hT, hu, cond_true]
  cases ok <;> simp_all
theorem pLen {x : Operand} {t : Nat} {args : Array Operand} {ts : Array Nat} {n : Nat} {u : AV} (ha : args.toList = [x]) (ht : ts.toList = [t]) (hx : s.val x = some u) (h : lenF T t u = some n) : POp T s (.call ⟨.builtin .len, args, ts⟩) (.v (.int .i64 (n : Int))) := fun r hr => by
  simp only [rop, rCall, rBuiltin, rLen, ha, ht, hr.val hx, h, Option.map_some]
theorem pMin {args : Array Operand} {ts : Array Nat} {l : List AV} (ha : s.vals args.toList = some l) (h : minmax true l = some v) : POp T s (.call ⟨.builtin .min, args, ts⟩) (.v v) := fun r hr => by
  simp only [rop, rCall, rBuiltin, rMM, hr.vals ha, h, Option.map_some]
theorem pMax {args : Array Operand} {ts : Array Nat} {l : List AV} (ha : s.vals args.toList = some l) (h : minmax false l = some v) : POp T s (.call ⟨.builtin .max, args, ts⟩) (.v v) := fun r hr => by
  simp only [rop, rCall, rBuiltin, rMM, hr.vals ha, h, Option.map_some]

/-! #### The operations of a region -/
/-- From a state, this operation leads to one. -/
def Stp (T : Nat → Option TI) (call : CallF) (bx : List Nat) (o : Oper) (s s' : AS) : Prop := ∀ r, Rep s r → ∃ r', oop T call bx o r none = some (.ok r' none) ∧ Rep s' r'
def isRop (op : Op) : Bool :=
  match op with
  | .alloc _ | .box _ _ | .store _ _ _ | .buildSlice _ _ _ | .makeSlice _ _ _ | .defer _ | .panic _ => false
  | .call c => (match c.callee with | .builtin .len | .builtin .min | .builtin .max => true | _ => false)
  | _ => true
theorem stp_pure {o : Oper} (h : POp T s o.op y) (hi : isRop o.op = true) : Stp T call bx o s (s.put o.dst y) := by
  intro r hr
  refine ⟨r.put o.dst y, ?_, hr.put _ _⟩
  have h1 := h r hr
  unfold oop
  split <;> rename_i ho
  · simp [isRop, ho] at hi
  · simp [isRop, ho] at hi
  · simp [isRop, ho] at hi
  · simp [isRop, ho] at hi
  · simp [isRop, ho] at hi
  · rename_i c
    unfold oCall
    simp only [isRop, ho] at hi
    rw [ho] at h1
    simp only [rop, rCall] at h1
    split at hi
    · rename_i hc; rw [hc] at h1; simp only [hc, oBuiltin, h1, oR]
    · rename_i hc; rw [hc] at h1; simp only [hc, oBuiltin, h1, oR]
    · rename_i hc; rw [hc] at h1; simp only [hc, oBuiltin, h1, oR]
    · cases hi
  · simp [isRop, ho] at hi
  · simp [isRop, ho] at hi
  · simp only [h1, oR]
theorem stp_allocL {o : Oper} {e t : Nat} {ti : TI} (ho : o.op = .alloc e) (hd : o.dst = some t) (hT : T e = some ti) (hm : mem t bx = true) (hst : stale t s.env = false) :
    Stp T call bx o s { s with env := (t, .lr t 0) :: s.env, lo := setc s.lo t ti.zero } := by
  intro r hr
  refine ⟨{ r with env := (t, .lr t 0) :: r.env, lo := setc r.lo t ti.zero }, by simp only [oop, ho, oAlloc, hT, newVar, hd, hm, if_true, (by rw [hr.env]; exact hst : stale t r.env = false), Bool.false_eq_true, if_false, Option.map_some], ?_⟩
  refine ⟨by simp only [hr.env], hr.sl, fun u c hc => ?_, hr.hp, hr.df⟩
  simp only [lkc_setc] at hc ⊢
  split at hc
  · rename_i hu; rw [if_pos hu]; exact hc
  · rename_i hu; rw [if_neg hu]; exact hr.lo u c hc
theorem stp_boxL {o : Oper} {e t : Nat} {ti : TI} {x : Operand} (ho : o.op = .box e x) (hd : o.dst = some t) (hT : T e = some ti) (hm : mem t bx = true) (hst : stale t s.env = false) (hv : s.val x = some v) (h1 : v.cells.all AV.one = true) :
    Stp T call bx o s { s with env := (t, .lr t 0) :: s.env, lo := setc s.lo t v.cells } := by
  intro r hr
  refine ⟨{ r with env := (t, .lr t 0) :: r.env, lo := setc r.lo t v.cells }, by simp only [oop, ho, oBox, hT, hr.val hv, h1, cond_true, newVar, hd, hm, if_true, (by rw [hr.env]; exact hst : stale t r.env = false), Bool.false_eq_true, if_false, Option.map_some], ?_⟩
  refine ⟨by simp only [hr.env], hr.sl, fun u c hc => ?_, hr.hp, hr.df⟩
  simp only [lkc_setc] at hc ⊢
  split at hc
  · rename_i hu; rw [if_pos hu]; exact hc
  · rename_i hu; rw [if_neg hu]; exact hr.lo u c hc
theorem stp_allocH {o : Oper} {e t : Nat} {ti : TI} (ho : o.op = .alloc e) (hd : o.dst = some t) (hT : T e = some ti) (hm : mem t bx = false) :
    Stp T call bx o s { s with env := (t, .v (.ptr s.hp.n 0)) :: s.env, hp := s.hp.push ⟨e, ti.zero⟩ } := by
  intro r hr
  refine ⟨{ r with env := (t, .v (.ptr r.hp.n 0)) :: r.env, hp := r.hp.push ⟨e, ti.zero⟩ }, by simp only [oop, ho, oAlloc, hT, newVar, hd, hm, Bool.false_eq_true, if_false, Option.map_some], ?_⟩
  exact ⟨by simp only [hr.env, hr.hp], hr.sl, hr.lo, by simp only [hr.hp], hr.df⟩
theorem stp_boxH {o : Oper} {e t : Nat} {ti : TI} {x : Operand} (ho : o.op = .box e x) (hd : o.dst = some t) (hT : T e = some ti) (hm : mem t bx = false) (hv : s.val x = some v) (h1 : v.cells.all AV.one = true) :
    Stp T call bx o s { s with env := (t, .v (.ptr s.hp.n 0)) :: s.env, hp := s.hp.push ⟨e, v.cells⟩ } := by
  intro r hr
  refine ⟨{ r with env := (t, .v (.ptr r.hp.n 0)) :: r.env, hp := r.hp.push ⟨e, v.cells⟩ }, by simp only [oop, ho, oBox, hT, hr.val hv, h1, cond_true, newVar, hd, hm, Bool.false_eq_true, if_false, Option.map_some], ?_⟩
  exact ⟨by simp only [hr.env, hr.hp], hr.sl, hr.lo, by simp only [hr.hp], hr.df⟩
theorem stp_storeL {o : Oper} {t u off : Nat} {a x : Operand} {ti : TI} {c c' : List AV} (ho : o.op = .store t a x) (hT : T t = some ti) (ha : s.slot a = some (.lr u off)) (hv : s.val x = some v)
    (h1 : (Nat.beq v.cells.length ti.size && v.cells.all AV.one) = true) (hl : lkc s.lo u = some c) (hw : wr c off v.cells = some c') : Stp T call bx o s ({ s with lo := setc s.lo u c' }.put o.dst (.v undefA)) := by
  intro r hr
  refine ⟨({ r with lo := setc r.lo u c' } : RS).put o.dst (.v undefA), by simp only [oop, ho, oStore, hT, hr.slot ha, hr.val hv, h1, cond_true, RS.wrt, hr.lo u c hl, hw, Option.map_some], ?_⟩
  refine Rep.put (s := { s with lo := setc s.lo u c' }) (r := { r with lo := setc r.lo u c' }) ⟨hr.env, hr.sl, fun z d hd => ?_, hr.hp, hr.df⟩ _ _
  simp only [lkc_setc] at hd ⊢
  split at hd
  · rename_i hu; rw [if_pos hu]; exact hd
  · rename_i hu; rw [if_neg hu]; exact hr.lo z d hd
theorem stp_storeH {o : Oper} {t b off : Nat} {a x : Operand} {ti : TI} {k : Blk} {c' : List AV} (ho : o.op = .store t a x) (hT : T t = some ti) (ha : s.slot a = some (.v (.ptr b off))) (hv : s.val x = some v)
    (h1 : (Nat.beq v.cells.length ti.size && v.cells.all AV.one) = true) (hl : s.hp.get b = some k) (hw : wr k.cells off v.cells = some c') : Stp T call bx o s ({ s with hp := s.hp.put b ⟨k.ty, c'⟩ }.put o.dst (.v undefA)) := by
  intro r hr
  refine ⟨({ r with hp := s.hp.put b ⟨k.ty, c'⟩ } : RS).put o.dst (.v undefA), by simp only [oop, ho, oStore, hT, hr.slot ha, hr.val hv, h1, cond_true, RS.wrt, hr.hp, hl, hw, Option.map_some], ?_⟩
  exact Rep.put (s := { s with hp := s.hp.put b ⟨k.ty, c'⟩ }) (r := { r with hp := s.hp.put b ⟨k.ty, c'⟩ }) ⟨hr.env, hr.sl, hr.lo, rfl, hr.df⟩ _ _
theorem stp_buildSlice {o : Oper} {t n : Nat} {ps : Array (Nat × Operand)} {ti : TI} {l : List (Nat × AV)} {e sz bytes : Nat} {ez cs : List AV} (ho : o.op = .buildSlice t n ps) (hT : T t = some ti) (hp : s.pairs ps.toList = some l) (hk : ti.k = .sl e sz bytes ez)
    (h1 : (Nat.ble (n * sz) 16777216 && Nat.beq ez.length sz) = true) (hf : fill (fun i => some (i * sz, sz)) (zerosL ez n) l = some cs) (h2 : cs.all AV.one = true) :
    Stp T call bx o s ({ s with hp := s.hp.push ⟨e, cs⟩ }.put o.dst (.v (.sl s.hp.n 0 n sz (some n)))) := by
  intro r hr
  refine ⟨({ r with hp := s.hp.push ⟨e, cs⟩ } : RS).put o.dst (.v (.sl s.hp.n 0 n sz (some n))), by simp only [oop, ho, oBuildSlice, hT, hr.pairs hp, hk, h1, cond_true, hf, h2, hr.hp], ?_⟩
  exact Rep.put (s := { s with hp := s.hp.push ⟨e, cs⟩ }) (r := { r with hp := s.hp.push ⟨e, cs⟩ }) ⟨hr.env, hr.sl, hr.lo, rfl, hr.df⟩ _ _
theorem stp_makeSlice {o : Oper} {t : Nat} {x z : Operand} {ti : TI} {k1 k2 : IntKind} {n c : Int} {e sz bytes : Nat} {ez : List AV} (ho : o.op = .makeSlice t x z) (hT : T t = some ti) (hx : s.val x = some (.int k1 n)) (hz : s.val z = some (.int k2 c)) (hk : ti.k = .sl e sz bytes ez)
    (h1 : 0 ≤ n ∧ n = c ∧ n ≤ 68719476736 ∧ bytes ≤ 2000 ∧ ez.length = sz) :
    Stp T call bx o s ({ s with hp := s.hp.push ⟨e, zerosL ez n.toNat⟩ }.put o.dst (.v (.sl s.hp.n 0 n.toNat sz (some n.toNat)))) := by
  intro r hr
  refine ⟨({ r with hp := s.hp.push ⟨e, zerosL ez n.toNat⟩ } : RS).put o.dst (.v (.sl s.hp.n 0 n.toNat sz (some n.toNat))), by simp only [oop, ho, oMakeSlice, hT, hr.val hx, hr.val hz, hk, if_pos h1, hr.hp], ?_⟩
  exact Rep.put (s := { s with hp := s.hp.push ⟨e, zerosL ez n.toNat⟩ }) (r := { r with hp := s.hp.push ⟨e, zerosL ez n.toNat⟩ }) ⟨hr.env, hr.sl, hr.lo, rfl, hr.df⟩ _ _
theorem stp_call {o : Oper} {f : Operand} {args : Array Operand} {ts : Array Nat} {g : Nat} {cap l : List AV} {hp : Hp} (ho : o.op = .call ⟨.value f, args, ts⟩) (hf : s.val f = some (.fn g cap)) (hl : s.vals args.toList = some l) (hc : call g (l ++ cap) s.hp = some (.ret v, hp)) :
    Stp T call bx o s ({ s with hp := hp }.put o.dst (.v v)) := by
  intro r hr
  refine ⟨({ r with hp := hp } : RS).put o.dst (.v v), by simp only [oop, ho, oCall, oCallV, hr.val hf, hr.vals hl, hr.hp, hc], ?_⟩
  exact Rep.put (s := { s with hp := hp }) (r := { r with hp := hp }) ⟨hr.env, hr.sl, hr.lo, rfl, hr.df⟩ _ _
theorem stp_append {o : Oper} {args : Array Operand} {ts : Array Nat} {a x : AV} {t t2 : Nat} {ti : TI} {e sz bytes n : Nat} {ez src : List AV} {hp : Hp} (ho : o.op = .call ⟨.builtin .append, args, ts⟩) (hl : s.vals args.toList = some [a, x]) (hts : ts.toList = [t, t2]) (hT : T t = some ti)
    (hq : isSeq T t2 = true) (hk : ti.k = .sl e sz bytes ez) (hez : Nat.beq ez.length sz = true) (hfl : RS.flat ⟨[], [], [], s.hp, []⟩ sz x = some (src, n)) (ha : appF s.hp e sz bytes a src n = some (v, hp)) :
    Stp T call bx o s ({ s with hp := hp }.put o.dst (.v v)) := by
  intro r hr
  have hfl' : r.flat sz x = some (src, n) := by rw [← hfl]; cases x <;> simp only [RS.flat, hr.hp]
  refine ⟨({ r with hp := hp } : RS).put o.dst (.v v), by simp only [oop, ho, oCall, oBuiltin, oAppend, hr.vals hl, hts, hT, hq, Bool.not_true, cond_false, hk, hez, hfl', hr.hp, ha], ?_⟩
  exact Rep.put (s := { s with hp := hp }) (r := { r with hp := hp }) ⟨hr.env, hr.sl, hr.lo, rfl, hr.df⟩ _ _
theorem stp_copy {o : Oper} {args : Array Operand} {ts : Array Nat} {x : AV} {t t2 : Nat} {ti : TI} {e sz bytes n b off len z : Nat} {cap : Option Nat} {ez src : List AV} {k : Blk} {c' : List AV} (ho : o.op = .call ⟨.builtin .copy, args, ts⟩) (hl : s.vals args.toList = some [.sl b off len z cap, x]) (hts : ts.toList = [t, t2]) (hT : T t = some ti)
    (hk : ti.k = .sl e sz bytes ez) (hfl : RS.flat ⟨[], [], [], s.hp, []⟩ sz x = some (src, n)) (hb : s.hp.get b = some k) (hw : wr k.cells off (src.take (min n len * sz)) = some c') (hz : Nat.beq z sz = true) :
    Stp T call bx o s ({ s with hp := s.hp.put b ⟨k.ty, c'⟩ }.put o.dst (.v (.int .i64 (min n len : Nat)))) := by
  intro r hr
  have hfl' : r.flat sz x = some (src, n) := by rw [← hfl]; cases x <;> simp only [RS.flat, hr.hp]
  refine ⟨({ r with hp := s.hp.put b ⟨k.ty, c'⟩ } : RS).put o.dst (.v (.int .i64 (min n len : Nat))), by simp only [oop, ho, oCall, oBuiltin, oCopy, hr.vals hl, hts, hT, hk, hfl', RS.wrt, hr.hp, hb, hw, hz, cond_true], ?_⟩
  exact Rep.put (s := { s with hp := s.hp.put b ⟨k.ty, c'⟩ }) (r := { r with hp := s.hp.put b ⟨k.ty, c'⟩ }) ⟨hr.env, hr.sl, hr.lo, rfl, hr.df⟩ _ _
theorem stp_defer {o : Oper} {f : Operand} {args : Array Operand} {ts : Array Nat} {g : Nat} {cap l : List AV} (ho : o.op = .defer ⟨.value f, args, ts⟩) (hf : s.val f = some (.fn g cap)) (hl : s.vals args.toList = some l) :
    Stp T call bx o s ({ s with df := (g, l ++ cap) :: s.df }.put o.dst (.v undefA)) := by
  intro r hr
  refine ⟨({ r with df := (g, l ++ cap) :: r.df } : RS).put o.dst (.v undefA), by simp only [oop, ho, oDefer, hr.val hf, hr.vals hl], ?_⟩
  exact Rep.put (s := { s with df := (g, l ++ cap) :: s.df }) (r := { r with df := (g, l ++ cap) :: r.df }) ⟨hr.env, hr.sl, hr.lo, hr.hp, by simp only [hr.df]⟩ _ _
end

section
variable (T : Nat → Option TI) (call : CallF) (bx : List Nat) (ops : List Oper)
/-- The run of a region's operations. -/
def XR (l : List (Oper × List Nat)) (s : AS) (Q : Option AV → AS → Prop) : Prop := ∀ r, Rep s r → ∃ out, runOps T call bx ops l r none = some out ∧ match out with
  | .ok r' _ => ∃ s', Rep s' r' ∧ Q none s'
  | .panic v r' => ∃ s', Rep s' r' ∧ Q (some v) s'
def RK (s : AS) (ws : List Nat) : Prop := ∀ r, Rep s r → reck T ops r ws = true
end
section
variable {T : Nat → Option TI} {call : CallF} {bx : List Nat} {ops : List Oper} {s s' : AS} {v : AV} {Q : Option AV → AS → Prop}

mutual
theorem AV.beq_refl : ∀ a : AV, AV.beq a a = true
  | .bool _ | .int _ _ | .str _ | .nilp | .ptr _ _ | .nils | .sl _ _ _ _ _ | .nilfn | .nilif | .any => by simp [AV.beq]
  | .ro a _ => by simp [AV.beq, AV.beqs_refl a]
  | .rl a _ _ => by simp [AV.beq, AV.beqss_refl a]
  | .fn _ a => by simp [AV.beq, AV.beqs_refl a]
  | .iface _ a => by simp [AV.beq, AV.beq_refl a]
  | .agg a => by simp [AV.beq, AV.beqs_refl a]
  | .tup a => by simp [AV.beq, AV.beqs_refl a]
theorem AV.beqs_refl : ∀ a : List AV, AV.beqs a a = true
  | [] => rfl
  | x :: l => by simp [AV.beqs, AV.beq_refl x, AV.beqs_refl l]
theorem AV.beqss_refl : ∀ a : List (List AV), AV.beqss a a = true
  | [] => rfl
  | x :: l => by simp [AV.beqss, AV.beqs_refl x, AV.beqss_refl l]
end
theorem Slot.beq_refl : ∀ a : Slot, Slot.beq a a = true
  | .v a => AV.beq_refl a
  | .lr _ _ => by simp [Slot.beq]
  | .none => rfl

theorem rk_nil : RK T ops s [] := fun _ _ => rfl
theorem rk_cons {i : Nat} {ws : List Nat} {o : Oper} {d : Nat} {y : Slot} (ho : ops[i]? = some o) (hg : o.guard = none) (hd : o.dst = some d) (hl : lk s.env d = some y) (hp : POp T s o.op y) (h : RK T ops s ws) : RK T ops s (i :: ws) := by
  intro r hr
  simp only [reck, ho, want, hg, hd, hr.env, hl, hp r hr, Slot.beq_refl, Bool.true_and, h r hr]
theorem xr_nil (h : Q none s) : XR T call bx ops [] s Q := fun r hr => ⟨_, rfl, s, hr, h⟩
theorem xr_cons {o : Oper} {ws : List Nat} {l : List (Oper × List Nat)} (hg : want ops ⟨[], s.env, [], Hp.empty, []⟩ o = some true) (hs : Stp T call bx o s s') (hk : RK T ops s' ws) (h : XR T call bx ops l s' Q) : XR T call bx ops ((o, ws) :: l) s Q := by
  intro r hr
  obtain ⟨r', h1, h2⟩ := hs r hr
  have hw : want ops r o = some true := by rw [← hg]; unfold want; rw [hr.env]
  simp only [runOps, hw, h1, hk r' h2, if_true]
  exact h r' h2
theorem xr_skip {o : Oper} {ws : List Nat} {l : List (Oper × List Nat)} (hg : want ops ⟨[], s.env, [], Hp.empty, []⟩ o = some false) (h : XR T call bx ops l (s.put o.dst (.v undefA)) Q) : XR T call bx ops ((o, ws) :: l) s Q := by
  intro r hr
  have hw : want ops r o = some false := by rw [← hg]; unfold want; rw [hr.env]
  simp only [runOps, hw]
  exact h _ (hr.put _ _)
theorem xr_panic {o : Oper} {ws : List Nat} {l : List (Oper × List Nat)} {x : Operand} {t : Nat} (hg : want ops ⟨[], s.env, [], Hp.empty, []⟩ o = some true) (ho : o.op = .panic x) (hx : s.val x = some (.iface t v)) (h : Q (some (.iface t v)) s) : XR T call bx ops ((o, ws) :: l) s Q := by
  intro r hr
  have hw : want ops r o = some true := by rw [← hg]; unfold want; rw [hr.env]
  simp only [runOps, hw, oop, ho, oPanic, hr.val hx]
  exact ⟨_, rfl, s, hr, h⟩
theorem xr_callPanic {o : Oper} {ws : List Nat} {l : List (Oper × List Nat)} {f : Operand} {args : Array Operand} {ts : Array Nat} {g : Nat} {cap vs : List AV} {hp : Hp} (hg : want ops ⟨[], s.env, [], Hp.empty, []⟩ o = some true) (ho : o.op = .call ⟨.value f, args, ts⟩) (hf : s.val f = some (.fn g cap)) (hl : s.vals args.toList = some vs)
    (hc : call g (vs ++ cap) s.hp = some (.panic v, hp)) (h : Q (some v) { s with hp := hp }) : XR T call bx ops ((o, ws) :: l) s Q := by
  intro r hr
  have hw : want ops r o = some true := by rw [← hg]; unfold want; rw [hr.env]
  simp only [runOps, hw, oop, ho, oCall, oCallV, hr.val hf, hr.vals hl, hr.hp, hc]
  exact ⟨_, rfl, { s with hp := hp }, ⟨hr.env, hr.sl, hr.lo, rfl, hr.df⟩, h⟩

end
/-- The slots behind a region. -/
def put1 (t : Nat) (y : Slot) : List (Nat × Slot) → List (Nat × Slot)
  | [] => [(t, y)]
  | (u, x) :: l => bif Nat.beq u t then (t, y) :: l else (u, x) :: put1 t y l
def outs (env : List (Nat × Slot)) : List Nat → List (Nat × Slot) → List (Nat × Slot)
  | [], sl => sl
  | t :: r, sl => outs env r (match lk env t with | some x => put1 t (cl t x) sl | none => sl)
/-- A list, written out. -/
inductive NF : List (Nat × Slot) → List (Nat × Slot) → Prop
  | nil {l} (h : l = []) : NF l []
  | v {l n a t t'} (h : l = (n, .v a) :: t) (k : NF t t') : NF l ((n, .v a) :: t')
  | lr {l n u o t t'} (h : l = (n, .lr u o) :: t) (k : NF t t') : NF l ((n, .lr u o) :: t')
  | no {l n t t'} (h : l = (n, .none) :: t) (k : NF t t') : NF l ((n, .none) :: t')
theorem NF.eq {l l' : List (Nat × Slot)} (h : NF l l') : l = l' := by
  induction h with
  | nil h => exact h
  | v h k ih => rw [h, ih]
  | lr h k ih => rw [h, ih]
  | no h k ih => rw [h, ih]
end Go.Eng

/- ENGINE 24: rules by which a law walks through code: code, loops, functions. -/
set_option linter.unusedVariables false
set_option linter.unusedSimpArgs false
namespace Go.Eng
open Go

structure RepS (N : Nat) (s : AS) (st : St) : Prop where
  len : N ≤ st.sl.length
  env : s.env = []
  sl : ∀ t y, lk s.sl t = some y → st.sl[t]? = some y
  lo : ∀ u c, lkc s.lo u = some c → lkc st.lo u = some c
  hp : st.hp = s.hp
  df : st.df = s.df

section
variable (T : Nat → Option TI) (call : CallF) (h : FH) (N : Nat)
def X (c : Code) (sl : List (Nat × Slot)) (lo : List (Nat × List AV)) (hp : Hp) (df : List (Nat × List AV)) (Q : AExit → List (Nat × Slot) → List (Nat × List AV) → Hp → List (Nat × List AV) → Prop) : Prop :=
  ∀ st, RepS N ⟨sl, [], lo, hp, df⟩ st → ∃ e st', execL T call h c st = some (e, st') ∧ ∃ sl' lo' hp' df', RepS N ⟨sl', [], lo', hp', df'⟩ st' ∧ Q e sl' lo' hp' df'
end

theorem put1_lk (t : Nat) (y : Slot) : ∀ (l : List (Nat × Slot)) (u : Nat), lk (put1 t y l) u = if u = t then some y else lk l u
  | [], u => by
    simp only [put1, lk]
    by_cases h : u = t
    · subst h; simp
    · rw [beq_ne (fun e => h e.symm), cond_false, if_neg h]
  | (w, x) :: l, u => by
    simp only [put1]
    cases hw : Nat.beq w t with
    | true =>
      have := Nat.eq_of_beq_eq_true hw
      subst this
      simp only [cond_true, lk]
      by_cases h : u = w
      · subst h; simp
      · rw [beq_ne (fun e => h e.symm), cond_false, cond_false, if_neg h]
    | false =>
      have hne : w ≠ t := by rintro rfl; simp at hw
      simp only [cond_false, lk, put1_lk t y l u]
      by_cases h : u = t
      · subst h; rw [beq_ne hne, cond_false]; simp
      · simp only [if_neg h]
theorem outs_spec (env : List (Nat × Slot)) : ∀ (out : List Nat) (sl : List (Nat × Slot)) (L : List Slot), (∀ t ∈ out, t < L.length) → (∀ t y, lk sl t = some y → L[t]? = some y) → ∀ t y, lk (outs env out sl) t = some y → (setOut env out L)[t]? = some y
  | [], sl, L, _, h, t, y, hy => h t y hy
  | u :: out, sl, L, hb, h, t, y, hy => by
    have e : setOut env (u :: out) L = setOut env out (match lk env u with | some x => L.set u (cl u x) | none => L) := by
      simp only [setOut]
      congr 1
      cases lk env u with
      | none => rfl
      | some x =>
        cases x with
        | v z => rfl
        | none => rfl
        | lr v off =>
          simp only [cl]
          by_cases hv : v = u ∧ off = 0
          · obtain ⟨rfl, rfl⟩ := hv; simp
          · simp [hv]
    rw [e]
    simp only [outs] at hy
    refine outs_spec env out _ _ ?_ ?_ t y hy
    · intro t ht
      cases lk env u with
      | none => exact hb t (by simp [ht])
      | some x => simp only [List.length_set]; exact hb t (by simp [ht])
    · intro t y hy
      cases hu : lk env u with
      | none => rw [hu] at hy; exact h t y hy
      | some x =>
        rw [hu] at hy
        simp only [put1_lk] at hy ⊢
        rw [List.getElem?_set]
        split at hy
        · rename_i ht
          subst ht
          rw [if_pos rfl, if_pos (hb t (by simp))]; exact hy
        · rename_i ht
          rw [if_neg (fun e => ht e.symm)]; exact h t y hy
theorem setOut_len (env : List (Nat × Slot)) : ∀ (out : List Nat) (L : List Slot), (setOut env out L).length = L.length
  | [], L => rfl
  | u :: out, L => by
    simp only [setOut, setOut_len env out]
    split
    · split <;> simp
    · simp
    · rfl
theorem setNone_get : ∀ (out : List Nat) (l : List Nat) (L : List Slot) (t : Nat), t ∉ out → (setOut (l.map fun t => (t, Slot.none)) out L)[t]? = L[t]?
  | [], l, L, t, _ => rfl
  | u :: out, l, L, t, ht => by
    simp only [List.mem_cons, not_or] at ht
    simp only [setOut]
    rw [setNone_get out l _ t ht.2]
    split
    · split
      · rw [List.getElem?_set_ne (fun e => ht.1 e.symm)]
      · rw [List.getElem?_set_ne (fun e => ht.1 e.symm)]
    · rw [List.getElem?_set_ne (fun e => ht.1 e.symm)]
    · rfl
theorem lk_filter (out : List Nat) : ∀ (l : List (Nat × Slot)) (t : Nat) (y : Slot), lk (l.filter fun e => !mem e.1 out) t = some y → lk l t = some y ∧ t ∉ out
  | [], t, y, h => by simp [lk] at h
  | (u, x) :: l, t, y, h => by
    simp only [List.filter_cons] at h
    split at h
    · rename_i hu
      simp only [lk] at h ⊢
      cases he : Nat.beq u t with
      | true =>
        have := Nat.eq_of_beq_eq_true he
        subst this
        simp only [he, cond_true] at h
        refine ⟨by simpa using h, fun hm => ?_⟩
        rw [(mem_iff _ _).2 hm] at hu
        cases hu
      | false =>
        simp only [he, cond_false] at h ⊢
        exact lk_filter out l t y h
    · rename_i hu
      obtain ⟨h1, h2⟩ := lk_filter out l t y h
      refine ⟨?_, h2⟩
      simp only [lk]
      cases he : Nat.beq u t with
      | false => simpa using h1
      | true =>
        exfalso
        have := Nat.eq_of_beq_eq_true he
        subst this
        apply hu
        cases hm : mem u out with
        | false => rfl
        | true => exact absurd ((mem_iff _ _).1 hm) h2

section
variable {T : Nat → Option TI} {call : CallF} {h : FH} {N : Nat} {s s' : AS} {v : AV} {sl sl' : List (Nat × Slot)} {lo lo' : List (Nat × List AV)} {hp : Hp} {df : List (Nat × List AV)} {Q : AExit → List (Nat × Slot) → List (Nat × List AV) → Hp → List (Nat × List AV) → Prop}

theorem x_mono {c : Code} {Q' : AExit → List (Nat × Slot) → List (Nat × List AV) → Hp → List (Nat × List AV) → Prop} (hx : X T call h N c sl lo hp df Q) (hq : ∀ e sl lo hp df, Q e sl lo hp df → Q' e sl lo hp df) : X T call h N c sl lo hp df Q' := fun st hst =>
  let ⟨e, st', h1, sl', lo', hp', df', h2, h3⟩ := hx st hst
  ⟨e, st', h1, sl', lo', hp', df', h2, hq _ _ _ _ _ h3⟩
theorem x_skip (hq : Q .normal sl lo hp df) : X T call h N .skip sl lo hp df Q := fun st hst => ⟨_, _, rfl, sl, lo, hp, df, hst, hq⟩
theorem x_ret (hq : Q .ret sl lo hp df) : X T call h N .ret sl lo hp df Q := fun st hst => ⟨_, _, rfl, sl, lo, hp, df, hst, hq⟩
theorem x_exit {id : Nat} (hq : Q (.exit id) sl lo hp df) : X T call h N (.exit id) sl lo hp df Q := fun st hst => ⟨_, _, rfl, sl, lo, hp, df, hst, hq⟩
/-- What comes behind a code, in a row. -/
def Then (T : Nat → Option TI) (call : CallF) (h : FH) (N : Nat) (b : Code) (Q : AExit → List (Nat × Slot) → List (Nat × List AV) → Hp → List (Nat × List AV) → Prop) : AExit → List (Nat × Slot) → List (Nat × List AV) → Hp → List (Nat × List AV) → Prop
  | .normal, sl, lo, hp, df => X T call h N b sl lo hp df Q
  | e, sl, lo, hp, df => Q e sl lo hp df
theorem x_seq {a b : Code} (hx : X T call h N a sl lo hp df (Then T call h N b Q)) : X T call h N (.seq a b) sl lo hp df Q := by
  intro st hst
  obtain ⟨e, st1, h1, sl', lo', hp', df', h2, h3⟩ := hx st hst
  simp only [execL, h1]
  cases e with
  | normal => exact h3 st1 h2
  | exit i => exact ⟨_, _, rfl, sl', lo', hp', df', h2, h3⟩
  | ret => exact ⟨_, _, rfl, sl', lo', hp', df', h2, h3⟩
  | panic v => exact ⟨_, _, rfl, sl', lo', hp', df', h2, h3⟩
theorem RepS.slot {st : St} (hst : RepS N s st) {x : Operand} {y : Slot} (hs : s.slot x = some y) : slotS st.sl x = some y ∨ ∃ f, x = .func f := by
  cases x with
  | tmp t =>
    simp only [AS.slot, hst.env, lk] at hs
    exact .inl (hst.sl t y hs)
  | const v => exact .inl hs
  | func f => exact .inr ⟨f, rfl⟩
  | global g => cases hs
theorem x_cond {c : Operand} {a b : Code} {p : Bool} (hc : AS.slot ⟨sl, [], lo, hp, df⟩ c = some (.v (.bool p))) (ha : p = true → X T call h N a sl lo hp df Q) (hb : p = false → X T call h N b sl lo hp df Q) : X T call h N (.cond c a b) sl lo hp df Q := by
  intro st hst
  have hcs : slotS st.sl c = some (.v (.bool p)) := by
    rcases hst.slot hc with hh | ⟨f, rfl⟩
    · exact hh
    · simp [AS.slot] at hc
  simp only [execL, hcs]
  cases p with
  | true => exact ha rfl st hst
  | false => exact hb rfl st hst
/-- What comes behind a block. -/
def Out (id : Nat) (Q : AExit → List (Nat × Slot) → List (Nat × List AV) → Hp → List (Nat × List AV) → Prop) : AExit → List (Nat × Slot) → List (Nat × List AV) → Hp → List (Nat × List AV) → Prop
  | .exit i, sl, lo, hp, df => bif Nat.beq i id then Q .normal sl lo hp df else Q (.exit i) sl lo hp df
  | e, sl, lo, hp, df => Q e sl lo hp df
theorem x_block {id : Nat} {c : Code} (hx : X T call h N c sl lo hp df (Out id Q)) : X T call h N (.block id c) sl lo hp df Q := by
  intro st hst
  obtain ⟨e, st1, h1, sl', lo', hp', df', h2, h3⟩ := hx st hst
  simp only [execL, h1]
  cases e with
  | exit i =>
    simp only [Out] at h3 ⊢
    cases hi : Nat.beq i id with
    | true => rw [hi] at h3; exact ⟨_, _, rfl, sl', lo', hp', df', h2, h3⟩
    | false => rw [hi] at h3; exact ⟨_, _, rfl, sl', lo', hp', df', h2, h3⟩
  | normal => exact ⟨_, _, rfl, sl', lo', hp', df', h2, h3⟩
  | ret => exact ⟨_, _, rfl, sl', lo', hp', df', h2, h3⟩
  | panic v => exact ⟨_, _, rfl, sl', lo', hp', df', h2, h3⟩
/-- What comes behind a round of a loop. -/
def Round (I : Nat → List (Nat × Slot) → List (Nat × List AV) → Hp → List (Nat × List AV) → Prop) (n : Nat) (Q : AExit → List (Nat × Slot) → List (Nat × List AV) → Hp → List (Nat × List AV) → Prop) : AExit → List (Nat × Slot) → List (Nat × List AV) → Hp → List (Nat × List AV) → Prop
  | .normal, sl, lo, hp, df => ∃ m, m < n ∧ I m sl lo hp df
  | e, sl, lo, hp, df => Q e sl lo hp df
theorem x_loop {c : Code} (I : Nat → List (Nat × Slot) → List (Nat × List AV) → Hp → List (Nat × List AV) → Prop) (n : Nat) (h0 : I n sl lo hp df) (hb : ∀ n sl lo hp df, I n sl lo hp df → X T call h N c sl lo hp df (Round I n Q)) : X T call h N (.loop c) sl lo hp df Q := by
  have key : ∀ (n : Nat) sl lo hp df, I n sl lo hp df → ∀ st, RepS N ⟨sl, [], lo, hp, df⟩ st → ∃ e st' k, iter (execL T call h c) k st = some (e, st') ∧ ∃ sl' lo' hp' df', RepS N ⟨sl', [], lo', hp', df'⟩ st' ∧ Q e sl' lo' hp' df' := by
    intro n
    induction n using Nat.strongRecOn with
    | ind n ih =>
      intro sl lo hp df hs st hst
      obtain ⟨e, st1, h1, sl', lo', hp', df', h2, h3⟩ := hb n sl lo hp df hs st hst
      cases e with
      | normal =>
        obtain ⟨m, hm, hi⟩ := h3
        obtain ⟨e, st2, k, g1, g2⟩ := ih m hm _ _ _ _ hi st1 h2
        exact ⟨e, st2, k + 1, by simp only [iter, h1]; exact g1, g2⟩
      | exit i => exact ⟨_, st1, 1, by simp only [iter, h1], sl', lo', hp', df', h2, h3⟩
      | ret => exact ⟨_, st1, 1, by simp only [iter, h1], sl', lo', hp', df', h2, h3⟩
      | panic v => exact ⟨_, st1, 1, by simp only [iter, h1], sl', lo', hp', df', h2, h3⟩
  intro st hst
  obtain ⟨e, st', k, g1, g2⟩ := key n _ _ _ _ h0 st hst
  exact ⟨e, st', by simp only [execL]; exact iterL_iff.2 ⟨k, g1⟩, g2⟩
/-- What is known may be forgotten. -/
theorem x_weak {c : Code} (hsl : ∀ t y, lk sl' t = some y → lk sl t = some y) (hlo : ∀ u d, lkc lo' u = some d → lkc lo u = some d) (hx : X T call h N c sl' lo' hp df Q) : X T call h N c sl lo hp df Q := fun st hst =>
  hx st ⟨hst.len, rfl, fun t y hy => hst.sl t y (hsl t y hy), fun u d hd => hst.lo u d (hlo u d hd), hst.hp, hst.df⟩

/-- The operations of a region, in the order in which they are gone through. -/
def regL (h : FH) (id : Nat) (ops : Array Oper) (draw : Bool) : Option (List (Oper × List Nat)) := if draw then pickOrd ops.toList (h.rh id).ord else some (ops.toList.map fun o => (o, []))
/-- The run of a region's operations; what comes behind it. -/
def XO (T : Nat → Option TI) (call : CallF) (bx : List Nat) (ops : List Oper) (l : List (Oper × List Nat)) (sl env : List (Nat × Slot)) (lo : List (Nat × List AV)) (hp : Hp) (df : List (Nat × List AV))
    (Qn : List (Nat × Slot) → List (Nat × List AV) → Hp → List (Nat × List AV) → Prop) (Qp : AV → Hp → List (Nat × List AV) → Prop) : Prop :=
  XR T call bx ops l ⟨sl, env, lo, hp, df⟩ (fun out s' => match out with | none => Qn s'.env s'.lo s'.hp s'.df | some v => Qp v s'.hp s'.df)
theorem x_region {id : Nat} {ops : Array Oper} {draw : Bool} {l : List (Oper × List Nat)} (hl : regL h id ops draw = some l) (hN : (h.rh id).out.all (fun t => Nat.blt t N) = true)
    (hx : XO T call h.bx ops.toList l sl [] lo hp df (fun env lo hp df => Q .normal (outs env (h.rh id).out sl) lo hp df) (fun v hp df => Q (.panic v) (sl.filter (fun e => !mem e.1 (h.rh id).out)) [] hp df)) : X T call h N (.region id ops draw) sl lo hp df Q := by
  intro st hst
  have hr : Rep ⟨sl, [], lo, hp, df⟩ ⟨st.sl, [], st.lo, st.hp, st.df⟩ := ⟨rfl, hst.sl, hst.lo, hst.hp, hst.df⟩
  obtain ⟨out, h1, h2⟩ := hx _ hr
  have hb : ∀ t ∈ (h.rh id).out, t < st.sl.length := by
    intro t ht
    rw [List.all_eq_true] at hN
    exact Nat.lt_of_lt_of_le (Nat.le_of_ble_eq_true (hN t ht)) hst.len
  unfold regL at hl
  cases out with
  | ok r' cm =>
    obtain ⟨s', hr', hq⟩ := h2
    refine ⟨.normal, ⟨setOut r'.env (h.rh id).out st.sl, r'.lo, r'.hp, r'.df⟩, by simp only [execL, runRegion, hl, h1], _, _, _, _, ?_, hq⟩
    exact ⟨by simp only [setOut_len]; exact hst.len, rfl, by rw [hr'.env]; exact outs_spec s'.env _ _ _ hb hst.sl, hr'.lo, hr'.hp, hr'.df⟩
  | panic v r' =>
    obtain ⟨s', hr', hq⟩ := h2
    refine ⟨.panic v, ⟨setOut ((h.rh id).out.map fun t => (t, Slot.none)) (h.rh id).out st.sl, (if draw then keepLo ops.toList r'.lo else r'.lo), r'.hp, r'.df⟩, by simp only [execL, runRegion, hl, h1], _, _, _, _, ?_, hq⟩
    refine ⟨by simp only [setOut_len]; exact hst.len, rfl, fun t y hy => ?_, fun u d hd => by simp [lkc] at hd, hr'.hp, hr'.df⟩
    obtain ⟨q1, q2⟩ := lk_filter _ _ _ _ hy
    show (setOut _ _ _)[t]? = some y
    rw [setNone_get _ _ _ _ q2]
    exact hst.sl t y q1

/-- The state is written out. -/
theorem x_nf {c : Code} (hn : NF sl sl') (hx : X T call h N c sl' lo hp df Q) : X T call h N c sl lo hp df Q := by rw [hn.eq]; exact hx

/-! #### Functions -/
def initA : Nat → List AV → List (Nat × Slot)
  | _, [] => []
  | n, a :: l => (n, .v a) :: initA (n + 1) l
theorem initA_lk : ∀ (l : List AV) (n t : Nat) (y : Slot), lk (initA n l) t = some y → ∃ i a, t = n + i ∧ l[i]? = some a ∧ y = .v a
  | [], n, t, y, h => by simp [initA, lk] at h
  | a :: l, n, t, y, h => by
    simp only [initA, lk] at h
    cases he : Nat.beq n t with
    | true =>
      have := Nat.eq_of_beq_eq_true he
      subst this
      simp only [he, cond_true, Option.some.injEq] at h
      exact ⟨0, a, rfl, rfl, h.symm⟩
    | false =>
      simp only [he, cond_false] at h
      obtain ⟨i, b, h1, h2, h3⟩ := initA_lk l (n + 1) t y h
      exact ⟨i + 1, b, by omega, by simpa using h2, h3⟩

/-- What the results are. -/
def resA (T : Nat → Option TI) (s : AS) : List ResultVar → Option (List AV)
  | [] => some []
  | .tmp t :: r => match s.slot (.tmp t) with
    | some (.v x) => (resA T s r).map fun l => x :: l
    | _ => none
  | .cell a t :: r => match T t, s.slot (.tmp a) with
    | some ti, some x => match (match x with | .lr u off => (match lkc s.lo u with | some c => part c off ti.size | none => none) | x => RS.rd ⟨[], [], [], s.hp, []⟩ x ti.size) with
      | some cs => match mkv ti cs with
        | some v => (resA T s r).map fun l => v :: l
        | none => none
      | none => none
    | _, _ => none
theorem resA_spec {st : St} (hst : RepS N s st) : ∀ {rs : List ResultVar} {l : List AV}, resA T s rs = some l → resV T st rs = some l
  | [], l, h => h
  | .tmp t :: rs, l, hl => by
    simp only [resA] at hl
    split at hl
    · rename_i x hx
      simp only [Option.map_eq_some_iff] at hl
      obtain ⟨l', h1, rfl⟩ := hl
      simp only [AS.slot, hst.env, lk] at hx
      simp only [resV, hst.sl t _ hx, resA_spec hst h1, Option.map_some]
    · cases hl
  | .cell a t :: rs, l, hl => by
    simp only [resA] at hl
    split at hl
    · rename_i ti x hT hx
      simp only [AS.slot, hst.env, lk] at hx
      split at hl
      · rename_i cs hcs
        split at hl
        · rename_i v hv
          simp only [Option.map_eq_some_iff] at hl
          obtain ⟨l', h1, rfl⟩ := hl
          have : RS.rd ⟨st.sl, [], st.lo, st.hp, st.df⟩ x ti.size = some cs := by
            cases x with
            | lr u off =>
              simp only at hcs
              split at hcs
              · rename_i c hc
                simp only [RS.rd, hst.lo u c hc, hcs]
              · cases hcs
            | none => simp [RS.rd] at hcs
            | v w =>
              rw [← hcs]
              cases w <;> simp only [RS.rd, hst.hp]
          simp only [resV, hT, hst.sl a _ hx, this, hv, resA_spec hst h1, Option.map_some]
        · cases hl
      · cases hl
    · cases hl

def oneR : List AV → AV
  | [x] => x
  | l => .tup l
variable {F : Nat → Option Func} {H : Nat → FH}
/-- How a function ends: what it answers, and in what memory. -/
def Ends (T : Nat → Option TI) (F : Nat → Option Func) (H : Nat → FH) (N : Nat) (fn : Func) (Φ : Res → Hp → Prop) (e : AExit) (sl : List (Nat × Slot)) (lo : List (Nat × List AV)) (hp : Hp) (df : List (Nat × List AV)) : Prop :=
  ∀ st, RepS N ⟨sl, [], lo, hp, df⟩ st → ∃ cm, endCM e = some cm ∧ ∃ r hp', leave T (callDL T F H (evalL T F H)) fn st st.df cm st.hp = some (r, hp') ∧ Φ r hp'
/-- 'f' answers. -/
def Ans (T : Nat → Option TI) (F : Nat → Option Func) (H : Nat → FH) (f : Nat) (args : List AV) (hp : Hp) (Φ : Res → Hp → Prop) : Prop := ∃ r hp', evalL T F H f args hp = some (r, hp') ∧ Φ r hp'
theorem ans_of {f : Nat} {fn : Func} {c : Code} {args : List AV} {hp : Hp} {Φ : Res → Hp → Prop} (hf : F f = some fn) (hl : Nat.beq args.length (arity fn) = true) (hb : fn.body = some c) (hN : Nat.ble fn.ntmps (st0 fn args hp).sl.length = true)
    (hx : X T (evalL T F H) (H f) fn.ntmps c (initA 0 args) [] hp [] (Ends T F H fn.ntmps fn Φ)) : Ans T F H f args hp Φ := by
  have hst : RepS fn.ntmps ⟨initA 0 args, [], [], hp, []⟩ (st0 fn args hp) := by
    refine ⟨Nat.le_of_ble_eq_true hN, rfl, fun t y hy => ?_, fun u c hc => by simp [lkc] at hc, rfl, rfl⟩
    obtain ⟨i, a, rfl, h2, rfl⟩ := initA_lk args 0 t y hy
    simp only [st0, Nat.zero_add]
    rw [List.getElem?_append_left (by simp; exact (List.getElem?_eq_some_iff.1 h2).1)]
    simp [h2]
  obtain ⟨e, st', h1, sl', lo', hp1, df', h2, h3⟩ := hx _ hst
  obtain ⟨cm, he, r, hp', hv, hΦ⟩ := h3 st' h2
  exact ⟨r, hp', evalL_of hf hl hb h1 he hv, hΦ⟩
theorem ends_ret {fn : Func} {Φ : Res → Hp → Prop} {e : AExit} {l : List AV} (he : endCM e = some .ret) (hr : resA T ⟨sl, [], lo, hp, []⟩ fn.results.toList = some l) (hΦ : Φ (.ret (oneR l)) hp) : Ends T F H N fn Φ e sl lo hp [] := by
  intro st hst
  refine ⟨.ret, he, .ret (oneR l), hp, ?_, hΦ⟩
  have e1 : st.hp = hp := hst.hp
  have e2 : st.df = [] := hst.df
  rw [e2]
  have : resV T ⟨st.sl, st.lo, hp, []⟩ fn.results.toList = some l := by rw [← e1, ← e2]; exact resA_spec hst hr
  simp only [leave, e1, e2, this]
  cases l with
  | nil => rfl
  | cons x l => cases l <;> rfl
theorem ends_panic {fn : Func} {Φ : Res → Hp → Prop} (hΦ : Φ (.panic v) hp) : Ends T F H N fn Φ (.panic v) sl lo hp [] := by
  intro st hst
  have e1 : st.hp = hp := hst.hp
  have e2 : st.df = [] := hst.df
  refine ⟨.pan v, rfl, .panic v, hp, ?_, hΦ⟩
  rw [e2]
  simp only [leave, e1]
end
end Go.Eng

/- ENGINE 25: the same rules, over states that are written out. -/
set_option linter.unusedVariables false
set_option linter.unusedSimpArgs false
namespace Go.Eng
open Go

section
variable {T : Nat → Option TI} {call : CallF} {bx : List Nat} {ops : List Oper} {sl env : List (Nat × Slot)} {lo : List (Nat × List AV)} {hp : Hp} {df : List (Nat × List AV)} {Qn : List (Nat × Slot) → List (Nat × List AV) → Hp → List (Nat × List AV) → Prop} {Qp : AV → Hp → List (Nat × List AV) → Prop} {v : AV} {y : Slot} {o : Oper} {ws : List Nat} {l : List (Oper × List Nat)} {d : Nat}

/-- Asked for: no guard, or one that was told so. -/
def Asked (ops : List Oper) (env : List (Nat × Slot)) (o : Oper) (b : Bool) : Prop := want ops ⟨[], env, [], Hp.empty, []⟩ o = some b
theorem asked0 (h : o.guard = none) : Asked ops env o true := by simp only [Asked, want, h]
theorem askedG {j : Nat} {b c : Bool} {g : Oper} {e : Nat} (h : o.guard = some (j, b)) (hj : ops[j]? = some g) (hd : g.dst = some e) (hl : lk env e = some (.v (.bool c))) {r : Bool} (hr : (c == b) = r) : Asked ops env o r := by
  simp only [Asked, want, h, hj, hd, hl, hr]
theorem askedU {j : Nat} {b : Bool} {g : Oper} {e : Nat} (h : o.guard = some (j, b)) (hj : ops[j]? = some g) (hd : g.dst = some e) (hl : lk env e = some (.v (.tup []))) : Asked ops env o false := by
  simp only [Asked, want, h, hj, hd, hl]

theorem xr_end (h : Qn env lo hp df) : XO T call bx ops [] sl env lo hp df Qn Qp := xr_nil h
theorem xr_pure (hg : Asked ops env o true) (hp1 : POp T ⟨sl, env, lo, hp, df⟩ o.op y) (hi : isRop o.op = true) (hd : o.dst = some d) (hk : ws = []) (h : XO T call bx ops l sl ((d, y) :: env) lo hp df Qn Qp) : XO T call bx ops ((o, ws) :: l) sl env lo hp df Qn Qp := by
  subst hk
  refine xr_cons hg (stp_pure hp1 hi) rk_nil ?_
  rw [hd]; exact h
theorem xr_unasked (hg : Asked ops env o false) (hd : o.dst = some d) (h : XO T call bx ops l sl ((d, .v undefA) :: env) lo hp df Qn Qp) : XO T call bx ops ((o, ws) :: l) sl env lo hp df Qn Qp := by
  refine xr_skip hg ?_
  rw [hd]; exact h
theorem xr_unasked0 (hg : Asked ops env o false) (hd : o.dst = none) (h : XO T call bx ops l sl env lo hp df Qn Qp) : XO T call bx ops ((o, ws) :: l) sl env lo hp df Qn Qp := by
  refine xr_skip hg ?_
  rw [hd]; exact h
theorem xr_panicOp {x : Operand} {t : Nat} {u : AV} (hg : Asked ops env o true) (ho : o.op = .panic x) (hx : AS.val ⟨sl, env, lo, hp, df⟩ x = some (.iface t u)) (h : Qp (.iface t u) hp df) : XO T call bx ops ((o, ws) :: l) sl env lo hp df Qn Qp := xr_panic hg ho hx h
theorem xr_callP {f : Operand} {args : Array Operand} {ts : Array Nat} {g : Nat} {cap al : List AV} {hp' : Hp} (hg : Asked ops env o true) (ho : o.op = .call ⟨.value f, args, ts⟩) (hf : AS.val ⟨sl, env, lo, hp, df⟩ f = some (.fn g cap)) (hl : AS.vals ⟨sl, env, lo, hp, df⟩ args.toList = some al)
    (hc : call g (al ++ cap) hp = some (.panic v, hp')) (h : Qp v hp' df) : XO T call bx ops ((o, ws) :: l) sl env lo hp df Qn Qp := xr_callPanic hg ho hf hl hc h
theorem xr_allocL {e : Nat} {ti : TI} (hg : Asked ops env o true) (ho : o.op = .alloc e) (hd : o.dst = some d) (hT : T e = some ti) (hm : mem d bx = true) (hst : stale d env = false) (hk : RK T ops ⟨sl, (d, .lr d 0) :: env, setc lo d ti.zero, hp, df⟩ ws)
    (h : XO T call bx ops l sl ((d, .lr d 0) :: env) (setc lo d ti.zero) hp df Qn Qp) : XO T call bx ops ((o, ws) :: l) sl env lo hp df Qn Qp := xr_cons hg (stp_allocL ho hd hT hm hst) hk h
theorem xr_boxL {e : Nat} {x : Operand} {ti : TI} (hg : Asked ops env o true) (ho : o.op = .box e x) (hd : o.dst = some d) (hT : T e = some ti) (hm : mem d bx = true) (hst : stale d env = false) (hv : AS.val ⟨sl, env, lo, hp, df⟩ x = some v) (h1 : v.cells.all AV.one = true) (hk : RK T ops ⟨sl, (d, .lr d 0) :: env, setc lo d v.cells, hp, df⟩ ws)
    (h : XO T call bx ops l sl ((d, .lr d 0) :: env) (setc lo d v.cells) hp df Qn Qp) : XO T call bx ops ((o, ws) :: l) sl env lo hp df Qn Qp := xr_cons hg (stp_boxL ho hd hT hm hst hv h1) hk h
theorem xr_allocH {e : Nat} {ti : TI} (hg : Asked ops env o true) (ho : o.op = .alloc e) (hd : o.dst = some d) (hT : T e = some ti) (hm : mem d bx = false) (hk : RK T ops ⟨sl, (d, .v (.ptr hp.n 0)) :: env, lo, hp.push ⟨e, ti.zero⟩, df⟩ ws)
    (h : XO T call bx ops l sl ((d, .v (.ptr hp.n 0)) :: env) lo (hp.push ⟨e, ti.zero⟩) df Qn Qp) : XO T call bx ops ((o, ws) :: l) sl env lo hp df Qn Qp := xr_cons hg (stp_allocH ho hd hT hm) hk h
theorem xr_boxH {e : Nat} {x : Operand} {ti : TI} (hg : Asked ops env o true) (ho : o.op = .box e x) (hd : o.dst = some d) (hT : T e = some ti) (hm : mem d bx = false) (hv : AS.val ⟨sl, env, lo, hp, df⟩ x = some v) (h1 : v.cells.all AV.one = true) (hk : RK T ops ⟨sl, (d, .v (.ptr hp.n 0)) :: env, lo, hp.push ⟨e, v.cells⟩, df⟩ ws)
    (h : XO T call bx ops l sl ((d, .v (.ptr hp.n 0)) :: env) lo (hp.push ⟨e, v.cells⟩) df Qn Qp) : XO T call bx ops ((o, ws) :: l) sl env lo hp df Qn Qp := xr_cons hg (stp_boxH ho hd hT hm hv h1) hk h
theorem xr_storeL {t u off : Nat} {a x : Operand} {ti : TI} {c c' : List AV} (hg : Asked ops env o true) (ho : o.op = .store t a x) (hd : o.dst = none) (hT : T t = some ti) (ha : AS.slot ⟨sl, env, lo, hp, df⟩ a = some (.lr u off)) (hv : AS.val ⟨sl, env, lo, hp, df⟩ x = some v)
    (h1 : (Nat.beq v.cells.length ti.size && v.cells.all AV.one) = true) (hl : lkc lo u = some c) (hw : wr c off v.cells = some c') (hk : RK T ops ⟨sl, env, setc lo u c', hp, df⟩ ws)
    (h : XO T call bx ops l sl env (setc lo u c') hp df Qn Qp) : XO T call bx ops ((o, ws) :: l) sl env lo hp df Qn Qp := by
  have := stp_storeL (call := call) (bx := bx) ho hT ha hv h1 hl hw
  rw [hd] at this
  exact xr_cons hg this hk h
theorem xr_storeH {t b off : Nat} {a x : Operand} {ti : TI} {k : Blk} {c' : List AV} (hg : Asked ops env o true) (ho : o.op = .store t a x) (hd : o.dst = none) (hT : T t = some ti) (ha : AS.slot ⟨sl, env, lo, hp, df⟩ a = some (.v (.ptr b off))) (hv : AS.val ⟨sl, env, lo, hp, df⟩ x = some v)
    (h1 : (Nat.beq v.cells.length ti.size && v.cells.all AV.one) = true) (hl : hp.get b = some k) (hw : wr k.cells off v.cells = some c') (hk : RK T ops ⟨sl, env, lo, hp.put b ⟨k.ty, c'⟩, df⟩ ws)
    (h : XO T call bx ops l sl env lo (hp.put b ⟨k.ty, c'⟩) df Qn Qp) : XO T call bx ops ((o, ws) :: l) sl env lo hp df Qn Qp := by
  have := stp_storeH (call := call) (bx := bx) ho hT ha hv h1 hl hw
  rw [hd] at this
  exact xr_cons hg this hk h
theorem xr_buildSlice {t n : Nat} {ps : Array (Nat × Operand)} {ti : TI} {pl : List (Nat × AV)} {e sz bytes : Nat} {ez cs : List AV} (hg : Asked ops env o true) (ho : o.op = .buildSlice t n ps) (hd : o.dst = some d) (hT : T t = some ti) (hp1 : AS.pairs ⟨sl, env, lo, hp, df⟩ ps.toList = some pl) (hkk : ti.k = .sl e sz bytes ez)
    (h1 : (Nat.ble (n * sz) 16777216 && Nat.beq ez.length sz) = true) (hf : fill (fun i => some (i * sz, sz)) (zerosL ez n) pl = some cs) (h2 : cs.all AV.one = true) (hk : RK T ops ⟨sl, (d, .v (.sl hp.n 0 n sz (some n))) :: env, lo, hp.push ⟨e, cs⟩, df⟩ ws)
    (h : XO T call bx ops l sl ((d, .v (.sl hp.n 0 n sz (some n))) :: env) lo (hp.push ⟨e, cs⟩) df Qn Qp) : XO T call bx ops ((o, ws) :: l) sl env lo hp df Qn Qp := by
  have := stp_buildSlice (call := call) (bx := bx) ho hT hp1 hkk h1 hf h2
  rw [hd] at this
  exact xr_cons hg this hk h
theorem xr_makeSlice {t : Nat} {x z : Operand} {ti : TI} {k1 k2 : IntKind} {n c : Int} {e sz bytes : Nat} {ez : List AV} (hg : Asked ops env o true) (ho : o.op = .makeSlice t x z) (hd : o.dst = some d) (hT : T t = some ti) (hx : AS.val ⟨sl, env, lo, hp, df⟩ x = some (.int k1 n)) (hz : AS.val ⟨sl, env, lo, hp, df⟩ z = some (.int k2 c)) (hkk : ti.k = .sl e sz bytes ez)
    (h1 : 0 ≤ n ∧ n = c ∧ n ≤ 68719476736 ∧ bytes ≤ 2000 ∧ ez.length = sz) (hk : RK T ops ⟨sl, (d, .v (.sl hp.n 0 n.toNat sz (some n.toNat))) :: env, lo, hp.push ⟨e, zerosL ez n.toNat⟩, df⟩ ws)
    (h : XO T call bx ops l sl ((d, .v (.sl hp.n 0 n.toNat sz (some n.toNat))) :: env) lo (hp.push ⟨e, zerosL ez n.toNat⟩) df Qn Qp) : XO T call bx ops ((o, ws) :: l) sl env lo hp df Qn Qp := by
  have := stp_makeSlice (call := call) (bx := bx) ho hT hx hz hkk h1
  rw [hd] at this
  exact xr_cons hg this hk h
theorem xr_call {f : Operand} {args : Array Operand} {ts : Array Nat} {g : Nat} {cap al : List AV} {hp' : Hp} (hg : Asked ops env o true) (ho : o.op = .call ⟨.value f, args, ts⟩) (hd : o.dst = some d) (hf : AS.val ⟨sl, env, lo, hp, df⟩ f = some (.fn g cap)) (hl : AS.vals ⟨sl, env, lo, hp, df⟩ args.toList = some al)
    (hc : call g (al ++ cap) hp = some (.ret v, hp')) (hk : RK T ops ⟨sl, (d, .v v) :: env, lo, hp', df⟩ ws) (h : XO T call bx ops l sl ((d, .v v) :: env) lo hp' df Qn Qp) : XO T call bx ops ((o, ws) :: l) sl env lo hp df Qn Qp := by
  have := stp_call (T := T) (bx := bx) ho hf hl hc
  rw [hd] at this
  exact xr_cons hg this hk h
theorem xr_append {args : Array Operand} {ts : Array Nat} {a x : AV} {t t2 : Nat} {ti : TI} {e sz bytes n : Nat} {ez src : List AV} {hp' : Hp} (hg : Asked ops env o true) (ho : o.op = .call ⟨.builtin .append, args, ts⟩) (hd : o.dst = some d) (hl : AS.vals ⟨sl, env, lo, hp, df⟩ args.toList = some [a, x]) (hts : ts.toList = [t, t2]) (hT : T t = some ti)
    (hq : isSeq T t2 = true) (hkk : ti.k = .sl e sz bytes ez) (hez : Nat.beq ez.length sz = true) (hfl : RS.flat ⟨[], [], [], hp, []⟩ sz x = some (src, n)) (ha : appF hp e sz bytes a src n = some (v, hp')) (hk : RK T ops ⟨sl, (d, .v v) :: env, lo, hp', df⟩ ws)
    (h : XO T call bx ops l sl ((d, .v v) :: env) lo hp' df Qn Qp) : XO T call bx ops ((o, ws) :: l) sl env lo hp df Qn Qp := by
  have := stp_append (s := ⟨sl, env, lo, hp, df⟩) (call := call) (bx := bx) ho hl hts hT hq hkk hez hfl ha
  rw [hd] at this
  exact xr_cons hg this hk h
theorem xr_copy {args : Array Operand} {ts : Array Nat} {x : AV} {t t2 : Nat} {ti : TI} {e sz bytes n b off len z : Nat} {cap : Option Nat} {ez src : List AV} {k : Blk} {c' : List AV} (hg : Asked ops env o true) (ho : o.op = .call ⟨.builtin .copy, args, ts⟩) (hd : o.dst = some d) (hl : AS.vals ⟨sl, env, lo, hp, df⟩ args.toList = some [.sl b off len z cap, x]) (hts : ts.toList = [t, t2]) (hT : T t = some ti)
    (hkk : ti.k = .sl e sz bytes ez) (hfl : RS.flat ⟨[], [], [], hp, []⟩ sz x = some (src, n)) (hb : hp.get b = some k) (hw : wr k.cells off (src.take (min n len * sz)) = some c') (hz : Nat.beq z sz = true) (hk : RK T ops ⟨sl, (d, .v (.int .i64 (min n len : Nat))) :: env, lo, hp.put b ⟨k.ty, c'⟩, df⟩ ws)
    (h : XO T call bx ops l sl ((d, .v (.int .i64 (min n len : Nat))) :: env) lo (hp.put b ⟨k.ty, c'⟩) df Qn Qp) : XO T call bx ops ((o, ws) :: l) sl env lo hp df Qn Qp := by
  have := stp_copy (s := ⟨sl, env, lo, hp, df⟩) (call := call) (bx := bx) ho hl hts hT hkk hfl hb hw hz
  rw [hd] at this
  exact xr_cons hg this hk h
theorem xr_defer {f : Operand} {args : Array Operand} {ts : Array Nat} {g : Nat} {cap al : List AV} (hg : Asked ops env o true) (ho : o.op = .defer ⟨.value f, args, ts⟩) (hd : o.dst = none) (hf : AS.val ⟨sl, env, lo, hp, df⟩ f = some (.fn g cap)) (hl : AS.vals ⟨sl, env, lo, hp, df⟩ args.toList = some al)
    (hk : RK T ops ⟨sl, env, lo, hp, (g, al ++ cap) :: df⟩ ws) (h : XO T call bx ops l sl env lo hp ((g, al ++ cap) :: df) Qn Qp) : XO T call bx ops ((o, ws) :: l) sl env lo hp df Qn Qp := by
  have := stp_defer (T := T) (call := call) (bx := bx) ho hf hl
  rw [hd] at this
  exact xr_cons hg this hk h
end
end Go.Eng

/- ENGINE 26: slices, memory that grows, numbers. -/
set_option linter.unusedVariables false
set_option linter.unusedSimpArgs false
namespace Go.Eng
open Go

/-! #### Numbers -/
theorem fwrap_i64 {x : Int} (h1 : -9223372036854775808 ≤ x) (h2 : x ≤ 9223372036854775807) : fwrap .i64 x = x := by
  unfold fwrap
  cases x with
  | ofNat m =>
    have : Nat.ble m (kmax .i64) = true := by
      rw [Nat.ble_eq]
      simp only [kmax]
      have h3 : ((m : Nat) : Int) ≤ 9223372036854775807 := h2
      omega
    simp only [this, cond_true]
  | negSucc m =>
    have : Nat.ble m 9223372036854775807 = true := by
      rw [Nat.ble_eq]
      omega
    simp only [this, cond_true]
section
variable {T : Nat → Option TI} {s : AS}
theorem pAddI {t u : Nat} {x z : Operand} {a b : Int} (hx : s.val x = some (.int .i64 a)) (hz : s.val z = some (.int .i64 b)) (h : -9223372036854775808 ≤ a + b ∧ a + b ≤ 9223372036854775807) : POp T s (.binOp .add t x z u) (.v (.int .i64 (a + b))) :=
  pBin hx hz (by simp only [binF, isSh, cond_false, binI, fwrap_i64 h.1 h.2]; rfl)
theorem pSubI {t u : Nat} {x z : Operand} {a b : Int} (hx : s.val x = some (.int .i64 a)) (hz : s.val z = some (.int .i64 b)) (h : -9223372036854775808 ≤ a - b ∧ a - b ≤ 9223372036854775807) : POp T s (.binOp .sub t x z u) (.v (.int .i64 (a - b))) :=
  pBin hx hz (by simp only [binF, isSh, cond_false, binI, fwrap_i64 h.1 h.2]; rfl)
theorem pMulI {t u : Nat} {x z : Operand} {a b : Int} (hx : s.val x = some (.int .i64 a)) (hz : s.val z = some (.int .i64 b)) (h : -9223372036854775808 ≤ a * b ∧ a * b ≤ 9223372036854775807) : POp T s (.binOp .mul t x z u) (.v (.int .i64 (a * b))) :=
  pBin hx hz (by simp only [binF, isSh, cond_false, binI, fwrap_i64 h.1 h.2]; rfl)
theorem pShr {t u : Nat} {x z : Operand} {k j : IntKind} {a b : Int} (hx : s.val x = some (.int k a)) (hz : s.val z = some (.int j b)) (h : 0 ≤ b) : POp T s (.binOp .shr t x z u) (.v (.int k (a.fdiv (2 ^ (min b.toNat k.bits))))) :=
  pBin hx hz (by simp only [binF, isSh, cond_true, shI]; rw [if_neg (by omega)])
theorem pShl {t u : Nat} {x z : Operand} {k j : IntKind} {a b : Int} (hx : s.val x = some (.int k a)) (hz : s.val z = some (.int j b)) (h : 0 ≤ b) : POp T s (.binOp .shl t x z u) (.v (.int k (fwrap k (a * 2 ^ (min b.toNat k.bits))))) :=
  pBin hx hz (by simp only [binF, isSh, cond_true, shI]; rw [if_neg (by omega)])
theorem pQuo {t u : Nat} {x z : Operand} {k : IntKind} {a b : Int} (hx : s.val x = some (.int k a)) (hz : s.val z = some (.int k b)) (h : b ≠ 0) : POp T s (.binOp .quo t x z u) (.v (.int k (fwrap k (a.tdiv b)))) :=
  pBin hx hz (by simp only [binF, isSh, cond_false, binI, beq_self_eq_true, cond_true]; rw [if_neg h])
theorem pRem {t u : Nat} {x z : Operand} {k : IntKind} {a b : Int} (hx : s.val x = some (.int k a)) (hz : s.val z = some (.int k b)) (h : b ≠ 0) : POp T s (.binOp .rem t x z u) (.v (.int k (a.tmod b))) :=
  pBin hx hz (by simp only [binF, isSh, cond_false, binI, beq_self_eq_true, cond_true]; rw [if_neg h])
end
theorem idx_own {T : Nat → Option TI} {t : Nat} {ti : TI} {e sz bytes b off len : Nat} {cap : Option Nat} {ez : List AV} (hT : T t = some ti) (hk : ti.k = .sl e sz bytes ez) {i : Int} (h : 0 ≤ i ∧ i < len) : idxF T t (.v (.sl b off len sz cap)) i = some (.v (.ptr b (off + i.toNat * sz))) := by
  simp only [idxF, hT, hk, beq_self, cond_true, if_pos h]

/-! #### Memory -/
/-- Everything that was there is there. -/
structure Grow (h h' : Hp) : Prop where
  n : h.n ≤ h'.n
  get : ∀ b, b < h.n → h'.get b = h.get b
theorem Grow.refl (h : Hp) : Grow h h := ⟨Nat.le_refl _, fun _ _ => rfl⟩
theorem Grow.trans {h1 h2 h3 : Hp} (a : Grow h1 h2) (b : Grow h2 h3) : Grow h1 h3 := ⟨Nat.le_trans a.n b.n, fun c hc => (b.get c (Nat.lt_of_lt_of_le hc a.n)).trans (a.get c hc)⟩
theorem Grow.push (h : Hp) (x : Blk) : Grow h (h.push x) := ⟨by simp [Hp.push], fun b hb => by rw [Hp.get_push, if_neg (by omega)]⟩
theorem Grow.put {h h' : Hp} (g : Grow h h') {b : Nat} (hb : h.n ≤ b) (x : Blk) : Grow h (h'.put b x) := ⟨g.n, fun c hc => by rw [Hp.get_put, if_neg (by omega)]; exact g.get c hc⟩
theorem Grow.kill {h h' : Hp} (g : Grow h h') {b : Nat} (hb : h.n ≤ b) : Grow h (h'.kill b) := ⟨g.n, fun c hc => by rw [Hp.get_kill, if_neg (by omega)]; exact g.get c hc⟩
theorem push_n (h : Hp) (x : Blk) : (h.push x).n = h.n + 1 := rfl
theorem put_n (h : Hp) (b : Nat) (x : Blk) : (h.put b x).n = h.n := rfl
theorem kill_n (h : Hp) (b : Nat) : (h.kill b).n = h.n := rfl

/-- A slice's elements, each of so many cells. -/
inductive Sl (h : Hp) (sz : Nat) : AV → List (List AV) → Prop
  | nil : Sl h sz .nils []
  | own {b off cap k es} (hb : b < h.n) (hk : h.get b = some k) (hp : part k.cells off (es.length * sz) = some es.flatten) (he : ∀ e ∈ es, e.length = sz) : Sl h sz (.sl b off es.length sz cap) es
  | old {es c0} (he : ∀ e ∈ es, e.length = sz) : Sl h sz (.rl es sz c0) es
theorem Sl.grow {h h' : Hp} {sz : Nat} {x : AV} {es : List (List AV)} (s : Sl h sz x es) (g : Grow h h') : Sl h' sz x es := by
  cases s with
  | nil => exact .nil
  | own hb hk hp he => exact .own (Nat.lt_of_lt_of_le hb g.n) ((g.get _ hb).trans hk) hp he
  | old he => exact .old he
theorem Sl.flat {h : Hp} {sz : Nat} {x : AV} {es : List (List AV)} (s : Sl h sz x es) : RS.flat ⟨[], [], [], h, []⟩ sz x = some (es.flatten, es.length) := by
  cases s with
  | nil => rfl
  | own hb hk hp he => simp only [RS.flat, hk, beq_self, cond_true, hp, Option.map_some]
  | old he => simp only [RS.flat, beq_self, cond_true]
theorem Sl.len {T : Nat → Option TI} {t : Nat} {ti : TI} {e sz' bytes : Nat} {ez : List AV} {h : Hp} {sz : Nat} {x : AV} {es : List (List AV)} (s : Sl h sz x es) (hT : T t = some ti) (hk : ti.k = .sl e sz' bytes ez) : lenF T t x = some es.length := by
  cases s <;> simp [lenF, hT, hk]
theorem Sl.flen {h : Hp} {sz : Nat} {x : AV} {es : List (List AV)} (s : Sl h sz x es) : es.flatten.length = es.length * sz := by
  have key : ∀ es : List (List AV), (∀ e ∈ es, e.length = sz) → es.flatten.length = es.length * sz := by
    intro es
    induction es with
    | nil => intro _; simp
    | cons a l ih =>
      intro he
      rw [List.flatten_cons, List.length_append, ih fun e h => he e (by simp [h]), he a (by simp), List.length_cons, Nat.succ_mul]
      omega
  cases s with
  | nil => simp
  | own _ _ _ he => exact key _ he
  | old he => exact key _ he
theorem part_some {cs : List AV} {off n : Nat} {l : List AV} : part cs off n = some l ↔ off + n ≤ cs.length ∧ l = (cs.drop off).take n := by
  unfold part
  cases hb : Nat.ble (off + n) cs.length with
  | true => simp only [cond_true, Option.some.injEq]; rw [Nat.ble_eq] at hb; exact ⟨fun h => ⟨hb, h.symm⟩, fun h => h.2.symm⟩
  | false =>
    simp only [cond_false, reduceCtorEq, false_iff]
    rintro ⟨h1, _⟩
    rw [← Nat.ble_eq, hb] at h1; cases h1
theorem wr_iff {cs : List AV} {off : Nat} {vs c : List AV} : wr cs off vs = some c ↔ off + vs.length ≤ cs.length ∧ c = cs.take off ++ vs ++ cs.drop (off + vs.length) := by
  unfold wr
  cases hb : Nat.ble (off + vs.length) cs.length with
  | true => simp only [cond_true, Option.some.injEq]; rw [Nat.ble_eq] at hb; exact ⟨fun h => ⟨hb, h.symm⟩, fun h => h.2.symm⟩
  | false =>
    simp only [cond_false, reduceCtorEq, false_iff]
    rintro ⟨h1, _⟩
    rw [← Nat.ble_eq, hb] at h1; cases h1
theorem wr_ok' {cs : List AV} {off : Nat} {vs : List AV} (h : off + vs.length ≤ cs.length) : ∃ c, wr cs off vs = some c ∧ c.length = cs.length := by
  refine ⟨_, wr_iff.2 ⟨h, rfl⟩, ?_⟩
  simp only [List.length_append, List.length_take, List.length_drop]
  omega
theorem flatten_part : ∀ (es : List (List AV)) (sz i : Nat), (∀ e ∈ es, e.length = sz) → (hi : i < es.length) → (es.flatten.drop (i * sz)).take sz = es[i]
  | a :: l, sz, 0, he, hi => by
    have := he a (by simp)
    simp only [Nat.zero_mul, List.drop_zero, List.flatten_cons, List.getElem_cons_zero]
    rw [List.take_append_of_le_length (by omega), List.take_of_length_le (by omega)]
  | a :: l, sz, i + 1, he, hi => by
    have := he a (by simp)
    simp only [List.flatten_cons, List.getElem_cons_succ]
    rw [List.drop_append, List.drop_eq_nil_of_le (by rw [this, Nat.succ_mul]; omega), List.nil_append, this, Nat.succ_mul, Nat.add_sub_cancel]
    exact flatten_part l sz i (fun e h => he e (by simp [h])) (by simpa using hi)
/-- An element: its address, and what is there. -/
theorem Sl.idx {T : Nat → Option TI} {t : Nat} {ti : TI} {e bytes : Nat} {ez : List AV} {h : Hp} {sz : Nat} {x : AV} {es : List (List AV)} (s : Sl h sz x es) (hT : T t = some ti) (hk : ti.k = .sl e sz bytes ez) {i : Int} (h0 : 0 ≤ i) (hi : i.toNat < es.length) :
    ∃ p, idxF T t (.v x) i = some (.v p) ∧ (∀ h', Grow h h' → RS.rd ⟨[], [], [], h', []⟩ (.v p) sz = some es[i.toNat]) := by
  cases s with
  | nil => simp at hi
  | @own b off cap k es hb hkk hp he =>
    refine ⟨.ptr b (off + i.toNat * sz), ?_, fun h' g => ?_⟩
    · simp only [idxF, hT, hk, beq_self, cond_true]
      rw [if_pos ⟨h0, by omega⟩]
    · simp only [RS.rd, g.get b hb, hkk]
      rw [part_some] at hp ⊢
      have hmul : i.toNat * sz + sz ≤ es.length * sz := by rw [← Nat.succ_mul]; exact Nat.mul_le_mul_right _ hi
      refine ⟨by omega, ?_⟩
      rw [← flatten_part es sz i.toNat he hi, hp.2, List.drop_take, List.take_take, List.drop_drop]
      congr 1
      omega
  | old he =>
    refine ⟨.ro es[i.toNat] 0, ?_, fun h' g => ?_⟩
    · simp only [idxF, hT, hk, beq_self, cond_true, if_pos h0, List.getElem?_eq_getElem hi]
    · simp only [RS.rd]
      rw [part_some]
      have := he _ (List.getElem_mem hi)
      exact ⟨by omega, by rw [List.drop_zero, List.take_of_length_le (by omega)]⟩
theorem zerosL_len (z : List AV) : ∀ n, (zerosL z n).length = n * z.length
  | 0 => by simp [zerosL]
  | n + 1 => by simp only [zerosL, List.length_append, zerosL_len z n, Nat.succ_mul]; omega
/-- A row of single cells is a slice. -/
theorem sl1 {h : Hp} {b off len : Nat} {cap : Option Nat} {k : Blk} (hb : b < h.n) (hk : h.get b = some k) (hl : off + len ≤ k.cells.length) : ∃ es, es.length = len ∧ Sl h 1 (.sl b off len 1 cap) es := by
  refine ⟨((k.cells.drop off).take len).map fun x => [x], by simp; omega, ?_⟩
  have hlen : (((k.cells.drop off).take len).map fun x => [x]).length = len := by simp; omega
  have : Sl h 1 (.sl b off (((k.cells.drop off).take len).map fun x => [x]).length 1 cap) (((k.cells.drop off).take len).map fun x => [x]) := by
    refine .own hb hk ?_ ?_
    · rw [hlen, part_some]
      refine ⟨by omega, ?_⟩
      rw [Nat.mul_one]
      generalize (k.cells.drop off).take len = l
      induction l with
      | nil => rfl
      | cons a l ih => simp [ih]
    · intro e he
      obtain ⟨a, _, rfl⟩ := List.mem_map.1 he
      rfl
  rwa [hlen] at this
end Go.Eng

/- ENGINE 27: loops, over states that are told by a few values. -/
set_option linter.unusedVariables false
set_option linter.unusedSimpArgs false
namespace Go.Eng
open Go

/-- Everything that the one names, the other names too. -/
def Sub (l l' : List (Nat × Slot)) : Prop := ∀ t y, lk l t = some y → lk l' t = some y
theorem Sub.nil {l' : List (Nat × Slot)} : Sub [] l' := fun t y h => by simp [lk] at h
theorem Sub.cons {n : Nat} {x : Slot} {l l' : List (Nat × Slot)} (h : lk l' n = some x) (hs : Sub l l') : Sub ((n, x) :: l) l' := by
  intro t y hy
  simp only [lk] at hy
  cases hn : Nat.beq n t with
  | true =>
    have := Nat.eq_of_beq_eq_true hn
    subst this
    simp only [hn, cond_true, Option.some.injEq] at hy
    subst hy; exact h
  | false => simp only [hn, cond_false] at hy; exact hs t y hy
theorem Sub.refl {l : List (Nat × Slot)} : Sub l l := fun _ _ h => h
def SubC (l l' : List (Nat × List AV)) : Prop := ∀ t y, lkc l t = some y → lkc l' t = some y
theorem SubC.nil {l' : List (Nat × List AV)} : SubC [] l' := fun t y h => by simp [lkc] at h
theorem SubC.cons {n : Nat} {x : List AV} {l l' : List (Nat × List AV)} (h : lkc l' n = some x) (hs : SubC l l') : SubC ((n, x) :: l) l' := by
  intro t y hy
  simp only [lkc] at hy
  cases hn : Nat.beq n t with
  | true =>
    have := Nat.eq_of_beq_eq_true hn
    subst this
    simp only [hn, cond_true, Option.some.injEq] at hy
    subst hy; exact h
  | false => simp only [hn, cond_false] at hy; exact hs t y hy
theorem SubC.refl {l : List (Nat × List AV)} : SubC l l := fun _ _ h => h

section
variable {T : Nat → Option TI} {call : CallF} {h : FH} {N : Nat} {sl sl' : List (Nat × Slot)} {lo lo' : List (Nat × List AV)} {hp : Hp} {df : List (Nat × List AV)} {Q : AExit → List (Nat × Slot) → List (Nat × List AV) → Hp → List (Nat × List AV) → Prop}

/-- What comes behind a round of a loop whose states are told by 'a'. -/
def RoundE {α : Type} (f : α → List (Nat × Slot)) (g : α → List (Nat × List AV)) (P : α → Hp → List (Nat × List AV) → Prop) (m : α → Nat) (a : α) (Q : AExit → List (Nat × Slot) → List (Nat × List AV) → Hp → List (Nat × List AV) → Prop) : AExit → List (Nat × Slot) → List (Nat × List AV) → Hp → List (Nat × List AV) → Prop
  | .normal, sl, lo, hp, df => ∃ a', m a' < m a ∧ Sub (f a') sl ∧ SubC (g a') lo ∧ P a' hp df
  | e, sl, lo, hp, df => Q e sl lo hp df
theorem x_loopE {c : Code} {α : Type} (f : α → List (Nat × Slot)) (g : α → List (Nat × List AV)) (P : α → Hp → List (Nat × List AV) → Prop) (m : α → Nat) (a0 : α) (hs : Sub (f a0) sl) (hl : SubC (g a0) lo) (h0 : P a0 hp df)
    (hb : ∀ a hp df, P a hp df → X T call h N c (f a) (g a) hp df (RoundE f g P m a Q)) : X T call h N (.loop c) sl lo hp df Q := by
  refine x_loop (fun n sl lo hp df => ∃ a, m a = n ∧ Sub (f a) sl ∧ SubC (g a) lo ∧ P a hp df) (m a0) ⟨a0, rfl, hs, hl, h0⟩ ?_
  rintro n sl lo hp df ⟨a, rfl, h1, h2, h3⟩
  refine x_mono (x_weak h1 h2 (hb a hp df h3)) fun e sl lo hp df hq => ?_
  cases e with
  | normal =>
    obtain ⟨a', q1, q2, q3, q4⟩ := hq
    exact ⟨m a', q1, a', rfl, q2, q3, q4⟩
  | _ => exact hq
end
end Go.Eng

/- ENGINE 28: a row of operations that only read, gone through at once. -/
set_option linter.unusedVariables false
set_option linter.unusedSimpArgs false
namespace Go.Eng
open Go

section
variable (T : Nat → Option TI)
def AS.rdA (s : AS) (a : Slot) (n : Nat) : Option (List AV) :=
  match a with
  | .lr t off => match lkc s.lo t with | some c => part c off n | none => none
  | .v (.ro c off) => part c off n
  | .v (.ptr b off) => match s.hp.get b with | some k => part k.cells off n | none => none
  | _ => none
/-- What a reading operation yields, of what is known. -/
def ropA (s : AS) (op : Op) : Option Slot :=
  match op with
  | .move x | .assign x => (match s.val x with | some v => some (.v v) | none => none)
  | .pick c a b => (match s.val c with | some (.bool true) => (match s.val a with | some v => some (.v v) | none => none) | some (.bool false) => (match s.val b with | some v => some (.v v) | none => none) | _ => none)
  | .load t a => (match T t, s.slot a with
    | some ti, some x => (match s.rdA x ti.size with | some cs => (match mkv ti cs with | some v => some (.v v) | none => none) | none => none)
    | _, _ => none)
  | .nilCheck x => (match s.slot x with | some a => bif isAddr a then some a else none | none => none)
  | .binOp op t x y _ => (match s.val x, s.val y with | some a, some b => (match binF T op t x y a b with | some v => some (.v v) | none => none) | _, _ => none)
  | .unOp .not _ x => (match s.val x with | some (.bool b) => some (.v (.bool (!b))) | _ => none)
  | .unOp .neg _ x => (match s.val x with | some (.int k n) => some (.v (.int k (fwrap k (0 - n)))) | _ => none)
  | .convert a b x => (match s.val x with | some v => (match convF T a b v with | some v => some (.v v) | none => none) | none => none)
  | .fieldAddr t x f => (match T t, s.slot x with
    | some ti, some a => (match ti.k with
      | .agg fs => (match fs[f]? with | some (off, n, _) => bif Nat.beq n 0 then none else addA a off | none => none)
      | _ => none)
    | _, _ => none)
  | .field t x f => (match T t, s.val x with
    | some ti, some (.agg cs) => (match ti.k with
      | .agg fs => (match fs[f]? with | some (off, n, ia) => partA cs off n ia | none => none)
      | _ => none)
    | _, _ => none)
  | .indexAddr t x i => (match s.slot x, s.val i with | some a, some (.int _ n) => idxF T t a n | _, _ => none)
  | .slice t x lo hi mx => bif mx.isSome && !hi.isSome then none else (match s.val x, s.opt lo, s.opt hi, s.opt mx with
    | some v, some l, some h, some m => (match sliceF T t v l h m with | some v => some (.v v) | none => none)
    | _, _, _, _ => none)
  | .extract x i => (match s.val x with | some (.tup vs) => (match vs[i]? with | some v => some (.v v) | none => none) | _ => none)
  | .makeInterface t x => (match T t, s.val x with
    | some ti, some v => (match ti.k with | .iface => none | _ => some (.v (.iface t v)))
    | _, _ => none)
  | .makeFunc (.func f) first cap => (match s.vals first.toList, s.vals cap.toList with | some [], some c => some (.v (.fn f c)) | _, _ => none)
  | .build t ps => (match s.pairs ps.toList with | some l => (match buildF T t l with | some v => some (.v v) | none => none) | none => none)
  | .typeAssert x _ t ok => (match s.val x, T t with
    | some (.iface u v), some ti => (match ti.k with
      | .iface => none
      | _ => bif Nat.beq u t then (bif ok then some (.v (.tup [v, .bool true])) else some (.v v)) else none)
    | _, _ => none)
  | .call ⟨.builtin .len, args, ts⟩ => (match args.toList, ts.toList with
    | [x], [t] => (match s.val x with | some v => (match lenF T t v with | some n => some (.v (.int .i64 (n : Int))) | none => none) | none => none)
    | _, _ => none)
  | _ => none
end
section
variable {T : Nat → Option TI} {s : AS} {y : Slot} {r : RS}
theorem Rep.rdA (h : Rep s r) {a : Slot} {n : Nat} {l : List AV} (hr : s.rdA a n = some l) : r.rd a n = some l := by
  cases a with
  | none => cases hr
  | lr t off =>
    simp only [AS.rdA] at hr
    split at hr
    · rename_i c hc; simp only [RS.rd, h.lo t c hc, hr]
    · cases hr
  | v w =>
    cases w <;> first | (simp only [AS.rdA] at hr; cases hr; done) | skip
    · simp only [AS.rdA] at hr
      simp only [RS.rd, h.hp]; exact hr
    · simpa only [AS.rdA, RS.rd] using hr
theorem ropA_sound {op : Op} (h : ropA T s op = some y) : POp T s op y := by
  intro r hr
  unfold ropA at h
  split at h
  · split at h
    · cases h; rename_i hv; simp only [rop, rMove, hr.val hv, Option.map_some]
    · cases h
  · split at h
    · cases h; rename_i hv; simp only [rop, rMove, hr.val hv, Option.map_some]
    · cases h
  · split at h
    · rename_i hc
      split at h
      · cases h; rename_i hv; simp only [rop, rPick, hr.val hc, cond_true, hr.val hv, Option.map_some]
      · cases h
    · rename_i hc
      split at h
      · cases h; rename_i hv; simp only [rop, rPick, hr.val hc, cond_false, hr.val hv, Option.map_some]
      · cases h
    · cases h
  · split at h
    · rename_i ti x hT hx
      split at h
      · rename_i cs hcs
        split at h
        · cases h; rename_i hv; simp only [rop, rLoad, hT, hr.slot hx, hr.rdA hcs, hv, Option.map_some]
        · cases h
      · cases h
    · cases h
  · split at h
    · rename_i a ha; simp only [rop, rNil, hr.slot ha]; exact h
    · cases h
  · split at h
    · rename_i hx hy
      split at h
      · cases h; rename_i hv; simp only [rop, rBin, hr.val hx, hr.val hy, hv, Option.map_some]
      · cases h
    · cases h
  · split at h
    · cases h; rename_i hx; simp only [rop, rUn, hr.val hx]
    · cases h
  · split at h
    · cases h; rename_i hx; simp only [rop, rUn, hr.val hx]
    · cases h
  · split at h
    · rename_i hx
      split at h
      · cases h; rename_i hv; simp only [rop, rConv, hr.val hx, hv, Option.map_some]
      · cases h
    · cases h
  · split at h
    · rename_i ti a hT hx
      split at h
      · rename_i fs hk
        split at h
        · rename_i hf; simp only [rop, rFieldAddr, hT, hr.slot hx, hk, hf]; exact h
        · cases h
      · cases h
    · cases h
  · split at h
    · rename_i ti a hT hx
      split at h
      · rename_i fs hk
        split at h
        · rename_i hf; simp only [rop, rField, hT, hr.val hx, hk, hf]; exact h
        · cases h
      · cases h
    · cases h
  · split at h
    · rename_i hx hi; simp only [rop, rIndexAddr, hr.slot hx, hr.val hi]; exact h
    · cases h
  · rename_i t x lo hi mx
    cases hc : mx.isSome && !hi.isSome with
    | true => simp only [hc, cond_true] at h; cases h
    | false =>
      simp only [hc, cond_false] at h
      split at h
      · rename_i h1 h2 h3 h4
        split at h
        · cases h; rename_i hv; simp only [rop, rSlice, hc, cond_false, hr.val h1, hr.opt h2, hr.opt h3, hr.opt h4, hv, Option.map_some]
        · cases h
      · cases h
  · split at h
    · rename_i hx
      split at h
      · cases h; rename_i hv; simp only [rop, rExtract, hr.val hx, hv, Option.map_some]
      · cases h
    · cases h
  · split at h
    · rename_i ti v hT hx
      simp only [rop, rMakeI, hT, hr.val hx]; exact h
    · cases h
  · split at h
    · cases h; rename_i h1 h2; simp only [rop, rMakeF, hr.vals h1, hr.vals h2]
    · cases h
  · split at h
    · rename_i h1
      split at h
      · cases h; rename_i hv; simp only [rop, rBuild, hr.pairs h1, hv, Option.map_some]
      · cases h
    · cases h
  · split at h
    · rename_i u v ti hx hT
      simp only [rop, rAssert, hr.val hx, hT]; exact h
    · cases h
  · split at h
    · rename_i x t ha ht
      split at h
      · rename_i hx
        split at h
        · cases h; rename_i hn; simp only [rop, rCall, rBuiltin, rLen, ha, ht, hr.val hx, hn, Option.map_some]
        · cases h
      · cases h
    · cases h
  · cases h

/-- Some operations, one behind another. -/
def runA (T : Nat → Option TI) (ops : List Oper) (sl : List (Nat × Slot)) (lo : List (Nat × List AV)) (hp : Hp) (df : List (Nat × List AV)) : Nat → List (Oper × List Nat) → List (Nat × Slot) → Option (List (Nat × Slot))
  | 0, _, env => some env
  | n + 1, ((o, []) :: l), env => (match want ops ⟨[], env, [], Hp.empty, []⟩ o, o.dst, isRop o.op with
    | some true, some d, true => (match ropA T ⟨sl, env, lo, hp, df⟩ o.op with | some y => runA T ops sl lo hp df n l ((d, y) :: env) | none => none)
    | some false, some d, _ => runA T ops sl lo hp df n l ((d, .v undefA) :: env)
    | _, _, _ => none)
  | _, _, _ => none
variable {call : CallF} {bx : List Nat} {ops : List Oper} {sl env env' : List (Nat × Slot)} {lo : List (Nat × List AV)} {hp : Hp} {df : List (Nat × List AV)} {Qn : List (Nat × Slot) → List (Nat × List AV) → Hp → List (Nat × List AV) → Prop} {Qp : AV → Hp → List (Nat × List AV) → Prop}
theorem xr_run : ∀ (n : Nat) {l l' : List (Oper × List Nat)} {env : List (Nat × Slot)}, runA T ops sl lo hp df n l env = some env' → l.drop n = l' → XO T call bx ops l' sl env' lo hp df Qn Qp → XO T call bx ops l sl env lo hp df Qn Qp
  | 0, l, l', env, h, hl, hx => by
    simp only [runA, Option.some.injEq] at h
    simp only [List.drop_zero] at hl
    subst h; subst hl; exact hx
  | n + 1, [], l', env, h, hl, hx => by simp [runA] at h
  | n + 1, (o, []) :: l, l', env, h, hl, hx => by
    simp only [runA] at h
    split at h
    · rename_i d hg hd hi
      split at h
      · rename_i y hy
        exact xr_pure hg (ropA_sound hy) hi hd rfl (xr_run n h hl hx)
      · cases h
    · exact xr_unasked (by unfold Asked; assumption) (by assumption) (xr_run n h hl hx)
    · cases h
  | n + 1, (o, w :: ws) :: l, l', env, h, hl, hx => by simp [runA] at h
variable {h : FH} {N : Nat} {Q : AExit → List (Nat × Slot) → List (Nat × List AV) → Hp → List (Nat × List AV) → Prop}
/-- A stop on the way: what is known there. -/
def At (slq : List (Nat × Slot)) (loq : List (Nat × List AV)) (hq : Hp) (dq : List (Nat × List AV)) : AExit → List (Nat × Slot) → List (Nat × List AV) → Hp → List (Nat × List AV) → Prop
  | .normal, sl, lo, hp, df => Sub slq sl ∧ SubC loq lo ∧ hp = hq ∧ df = dq
  | _, _, _, _, _ => False
theorem x_cut {c b : Code} (slq : List (Nat × Slot)) (loq : List (Nat × List AV)) (hq : Hp) (dq : List (Nat × List AV)) (h1 : X T call h N c sl lo hp df (At slq loq hq dq)) (h2 : X T call h N b slq loq hq dq Q) : X T call h N (.seq c b) sl lo hp df Q := by
  refine x_seq (x_mono h1 fun e sl lo hp df hA => ?_)
  cases e with
  | normal =>
    obtain ⟨a1, a2, rfl, rfl⟩ := hA
    exact x_weak a1 a2 h2
  | _ => exact hA.elim
end
end Go.Eng

/- ENGINE 29: slices of one's own, and appending to them. -/
set_option linter.unusedVariables false
set_option linter.unusedSimpArgs false
namespace Go.Eng
open Go

/-- A slice whose row is not older than 'b0'. -/
inductive SlF (b0 : Nat) (h : Hp) (sz : Nat) : AV → List (List AV) → Prop
  | nil : SlF b0 h sz .nils []
  | own {b off cap k es} (hb0 : b0 ≤ b) (hb : b < h.n) (hk : h.get b = some k) (hp : part k.cells off (es.length * sz) = some es.flatten) (he : ∀ e ∈ es, e.length = sz) : SlF b0 h sz (.sl b off es.length sz cap) es
theorem SlF.sl {b0 : Nat} {h : Hp} {sz : Nat} {x : AV} {es : List (List AV)} (s : SlF b0 h sz x es) : Sl h sz x es := by
  cases s with
  | nil => exact .nil
  | own hb0 hb hk hp he => exact .own hb hk hp he
theorem SlF.grow {b0 : Nat} {h h' : Hp} {sz : Nat} {x : AV} {es : List (List AV)} (s : SlF b0 h sz x es) (g : Grow h h') : SlF b0 h' sz x es := by
  cases s with
  | nil => exact .nil
  | own hb0 hb hk hp he => exact .own hb0 (Nat.lt_of_lt_of_le hb g.n) ((g.get _ hb).trans hk) hp he
theorem flat_len (sz : Nat) : ∀ es : List (List AV), (∀ e ∈ es, e.length = sz) → es.flatten.length = es.length * sz
  | [], _ => by simp
  | a :: l, he => by
    rw [List.flatten_cons, List.length_append, flat_len sz l fun e h => he e (by simp [h]), he a (by simp), List.length_cons, Nat.succ_mul]
    omega
/-- A new row. -/
theorem slf_new {b0 : Nat} {h : Hp} {sz e : Nat} {es : List (List AV)} {cap : Option Nat} (hb : b0 ≤ h.n) (he : ∀ x ∈ es, x.length = sz) : SlF b0 (h.push ⟨e, es.flatten⟩) sz (.sl h.n 0 es.length sz cap) es := by
  refine .own hb (by rw [push_n]; omega) (by rw [Hp.get_push, if_pos rfl]) ?_ he
  rw [part_some]
  simp only [List.drop_zero]
  have := flat_len sz es he
  exact ⟨by omega, by rw [List.take_of_length_le (by omega)]⟩
theorem SlF.append {hp0 h : Hp} {sz e bytes : Nat} {x : AV} {es : List (List AV)} (g : Grow hp0 h) (s : SlF hp0.n h sz x es) (new : List (List AV)) (hnew : ∀ a ∈ new, a.length = sz) (hlen : es.length + new.length ≤ 68719476736) (hby : bytes ≤ 2000) :
    ∃ v h', appF h e sz bytes x new.flatten new.length = some (v, h') ∧ SlF hp0.n h' sz v (es ++ new) ∧ Grow hp0 h' := by
  by_cases h0 : new.length = 0
  · have : new = [] := List.eq_nil_of_length_eq_zero h0
    subst this
    refine ⟨x, h, ?_, by simpa using s, g⟩
    cases s <;> simp [appF]
  · cases s with
    | nil =>
      refine ⟨_, _, by simp only [appF, if_neg h0]; rw [if_pos ⟨by simp at hlen; omega, hby⟩], ?_, g.trans (.push _ _)⟩
      exact slf_new g.n hnew
    | @own b off cap k es hb0 hb hk hp he =>
      have hd : (dropB h b cap (es.length + new.length)).n = h.n := by
        unfold dropB
        cases cap with
        | none => rfl
        | some c => simp only; cases Nat.ble (es.length + new.length) c <;> rfl
      have gd : Grow hp0 (dropB h b cap (es.length + new.length)) := by
        unfold dropB
        cases cap with
        | none => exact g.kill hb0
        | some c =>
          simp only
          cases Nat.ble (es.length + new.length) c with
          | true => exact g.kill hb0
          | false => exact g
      refine ⟨.sl h.n 0 (es.length + new.length) sz none, (dropB h b cap (es.length + new.length)).push ⟨e, es.flatten ++ new.flatten⟩, ?_, ?_, gd.trans (.push _ _)⟩
      · simp only [appF, if_neg h0, hk, hp]
        rw [if_pos (by exact ⟨hlen, hby, trivial⟩)]
      · have := slf_new (b0 := hp0.n) (h := dropB h b cap (es.length + new.length)) (e := e) (es := es ++ new) (cap := none) (by rw [hd]; exact g.n) (sz := sz) (fun a ha => by
          rcases List.mem_append.1 ha with ha | ha
          · exact he a ha
          · exact hnew a ha)
        rw [hd, List.length_append, List.flatten_append] at this
        exact this
/-- The bytes of a text as a row. -/
theorem flat_str (h : Hp) (l : List UInt8) : RS.flat ⟨[], [], [], h, []⟩ 1 (.str l) = some ((l.map fun b => [AV.int .u8 (b.toNat : Int)]).flatten, l.length) := by
  simp only [RS.flat, beq_self, cond_true]
  congr 2
  induction l with
  | nil => rfl
  | cons a l ih => simp [ih]
/-- Single cells of a row of one's own. -/
theorem slf1 {b0 : Nat} {h : Hp} {b off len : Nat} {cap : Option Nat} {k : Blk} (hb0 : b0 ≤ b) (hb : b < h.n) (hk : h.get b = some k) (hl : off + len ≤ k.cells.length) : ∃ es, es.length = len ∧ SlF b0 h 1 (.sl b off len 1 cap) es := by
  obtain ⟨es, h1, h2⟩ := sl1 (cap := cap) hb hk hl
  refine ⟨es, h1, ?_⟩
  cases h2 with
  | own hb' hk' hp he => exact .own hb0 hb' hk' hp he
end Go.Eng

/- ENGINE 30: memory of which one block changes. -/
set_option linter.unusedVariables false
set_option linter.unusedSimpArgs false
namespace Go.Eng
open Go

theorem rd_ptr {h : Hp} {b off n : Nat} {k : Blk} {cs : List AV} (hk : h.get b = some k) (hp : part k.cells off n = some cs) : RS.rd ⟨[], [], [], h, []⟩ (.v (.ptr b off)) n = some cs := by simp only [RS.rd, hk, hp]
/-- Everything that was there is there, but for what one block holds. -/
structure GB (w : Nat) (h h' : Hp) : Prop where
  n : h.n ≤ h'.n
  get : ∀ b, b < h.n → b ≠ w → h'.get b = h.get b
theorem GB.refl (w : Nat) (h : Hp) : GB w h h := ⟨Nat.le_refl _, fun _ _ _ => rfl⟩
theorem Grow.gb {h h' : Hp} (g : Grow h h') (w : Nat) : GB w h h' := ⟨g.n, fun b hb _ => g.get b hb⟩
theorem GB.trans {w : Nat} {h1 h2 h3 : Hp} (a : GB w h1 h2) (b : GB w h2 h3) : GB w h1 h3 := ⟨Nat.le_trans a.n b.n, fun c hc hw => (b.get c (Nat.lt_of_lt_of_le hc a.n) hw).trans (a.get c hc hw)⟩
theorem GB.put {w : Nat} {h h' : Hp} (g : GB w h h') (x : Blk) : GB w h (h'.put w x) := ⟨g.n, fun b hb hw => by rw [Hp.get_put, if_neg hw]; exact g.get b hb hw⟩
/-- Where the block is new, nothing changed. -/
theorem GB.grow {w : Nat} {h0 h h' : Hp} (g0 : Grow h0 h) (g : GB w h h') (hw : h0.n ≤ w) : Grow h0 h' := ⟨Nat.le_trans g0.n g.n, fun b hb => by
  rw [g.get b (Nat.lt_of_lt_of_le hb g0.n) (by omega)]; exact g0.get b hb⟩
theorem SlF.gb {b0 w : Nat} {h h' : Hp} {sz : Nat} {x : AV} {es : List (List AV)} (s : SlF b0 h sz x es) (g : GB w h h') (hw : w < b0) : SlF b0 h' sz x es := by
  cases s with
  | nil => exact .nil
  | own hb0 hb hk hp he => exact .own hb0 (Nat.lt_of_lt_of_le hb g.n) ((g.get _ hb (by omega)).trans hk) hp he
theorem SlF.weak {b0 b1 : Nat} {h : Hp} {sz : Nat} {x : AV} {es : List (List AV)} (s : SlF b0 h sz x es) (hb : b1 ≤ b0) : SlF b1 h sz x es := by
  cases s with
  | nil => exact .nil
  | own hb0 hb' hk hp he => exact .own (Nat.le_trans hb hb0) hb' hk hp he
theorem Sl.cells {h : Hp} {sz : Nat} {x : AV} {es : List (List AV)} (s : Sl h sz x es) : x.cells = [x] := by cases s <;> rfl
theorem Sl.one {h : Hp} {sz : Nat} {x : AV} {es : List (List AV)} (s : Sl h sz x es) : x.one = true := by cases s <;> rfl
theorem Sl.st {h : Hp} {sz n : Nat} {x : AV} {es : List (List AV)} (s : Sl h sz x es) (hn : n = 1) : (Nat.beq x.cells.length n && x.cells.all AV.one) = true := by
  subst hn
  rw [s.cells]
  simp [s.one]
theorem Sl.wr {h : Hp} {sz off : Nat} {x : AV} {es : List (List AV)} (s : Sl h sz x es) {cs c : List AV} (hw : Eng.wr cs off [x] = some c) : Eng.wr cs off x.cells = some c := by rw [s.cells]; exact hw
end Go.Eng

/- ENGINE 31: rules for deferred functions, and for what recovers. -/
set_option linter.unusedVariables false
set_option linter.unusedSimpArgs false
namespace Go.Eng
open Go

section
variable {T : Nat → Option TI} {call : CallF} {bx : List Nat} {ops : List Oper}
theorem oop_some {o : Oper} {s s' : RS} {c : CM} (h : oop T call bx o s none = some (.ok s' none)) : oop T call bx o s (some c) = some (.ok s' (some c)) := by
  have hR : ∀ {x : Option Slot}, oR o.dst s none x = some (.ok s' none) → oR o.dst s (some c) x = some (.ok s' (some c)) := by
    intro x hx
    unfold oR at hx ⊢
    split at hx
    · simp only [Option.some.injEq, ROut.ok.injEq, and_true] at hx
      subst hx; rfl
    · simp at hx
  unfold oop at h ⊢
  split at h
  · unfold oAlloc at h ⊢
    split at h
    · simp only [Option.map_eq_some_iff, ROut.ok.injEq, and_true, exists_eq_right] at h
      simp only [h, Option.map_some]
    · simp at h
  · unfold oBox at h ⊢
    split at h
    · rename_i ti v hti hv
      cases hall : v.cells.all AV.one with
      | false => simp [hall] at h
      | true =>
        simp only [hall, cond_true, Option.map_eq_some_iff, ROut.ok.injEq, and_true, exists_eq_right] at h ⊢
        simp only [h, Option.map_some]
    · simp at h
  · unfold oStore at h ⊢
    split at h
    · rename_i ti p v hti hp hv
      cases hall : (Nat.beq v.cells.length ti.size && v.cells.all AV.one) with
      | false => simp [hall] at h
      | true =>
        simp only [hall, cond_true, Option.map_eq_some_iff, ROut.ok.injEq, and_true] at h ⊢
        obtain ⟨s1, h1, rfl⟩ := h
        exact ⟨s1, h1, rfl⟩
    · simp at h
  · unfold oBuildSlice at h ⊢
    simp only [Bool.cond_eq_ite] at h ⊢
    repeat' split at h
    all_goals simp only [Option.some.injEq, reduceCtorEq, ROut.ok.injEq, and_true] at h
    subst h
    simp_all
  · unfold oMakeSlice at h ⊢
    repeat' split at h
    all_goals simp only [Option.some.injEq, reduceCtorEq, ROut.ok.injEq, and_true] at h
    subst h
    simp_all
    omega
  · rename_i cc hcc
    unfold oCall at h ⊢
    split at h
    · unfold oCallV at h ⊢
      repeat' split at h
      all_goals simp only [Option.some.injEq, reduceCtorEq, ROut.ok.injEq, and_true] at h
      subst h
      simp_all
    · rename_i b hb
      unfold oBuiltin at h ⊢
      split at h
      · unfold oAppend at h ⊢
        simp only [Bool.cond_eq_ite] at h ⊢
        repeat' split at h
        all_goals simp only [Option.some.injEq, reduceCtorEq, ROut.ok.injEq, and_true] at h
        subst h
        simp_all
      · unfold oCopy at h ⊢
        simp only [Bool.cond_eq_ite] at h ⊢
        repeat' split at h
        all_goals simp only [Option.some.injEq, reduceCtorEq, ROut.ok.injEq, and_true] at h
        all_goals
          subst h
          simp_all
      · simp [oRecover] at h
      · rename_i h1 h2 h3
        have := hR h
        cases b <;> first | exact this | exact absurd rfl h1 | exact absurd rfl h2 | exact absurd rfl h3
    · simp at h
  · unfold oDefer at h ⊢
    repeat' split at h
    all_goals simp only [Option.some.injEq, reduceCtorEq, ROut.ok.injEq, and_true] at h
    subst h
    simp_all
  · unfold oPanic at h
    split at h <;> simp at h
  · exact hR h
end
end Go.Eng

/- ENGINE 32: rules for the code of deferred functions; the way out through them. -/
set_option linter.unusedVariables false
set_option linter.unusedSimpArgs false
namespace Go.Eng
open Go

abbrev QS := AExit → List (Nat × Slot) → List (Nat × List AV) → Hp → List (Nat × List AV) → CM → Prop
def XOS (T : Nat → Option TI) (call : CallF) (bx : List Nat) (ops : List Oper) (l : List (Oper × List Nat)) (sl env : List (Nat × Slot)) (lo : List (Nat × List AV)) (hp : Hp) (df : List (Nat × List AV)) (cm : CM)
    (Qn : List (Nat × Slot) → List (Nat × List AV) → Hp → List (Nat × List AV) → CM → Prop) : Prop :=
  ∀ r, Rep ⟨sl, env, lo, hp, df⟩ r → ∃ r' cm', runOps T call bx ops l r (some cm) = some (.ok r' (some cm')) ∧ ∃ env' lo' hp' df', Rep ⟨sl, env', lo', hp', df'⟩ r' ∧ Qn env' lo' hp' df' cm'
section
variable {T : Nat → Option TI} {call : CallF} {bx : List Nat} {ops : List Oper} {sl env env' : List (Nat × Slot)} {lo lo' : List (Nat × List AV)} {hp hp' : Hp} {df df' : List (Nat × List AV)} {cm : CM} {Qn : List (Nat × Slot) → List (Nat × List AV) → Hp → List (Nat × List AV) → CM → Prop} {o : Oper} {l l' : List (Oper × List Nat)} {d : Nat} {v : AV} {y : Slot}
theorem xs_end (h : Qn env lo hp df cm) : XOS T call bx ops [] sl env lo hp df cm Qn := fun r hr => ⟨r, cm, rfl, _, _, _, _, hr, h⟩
theorem xs_cons (hg : Asked ops env o true) (hs : Stp T call bx o ⟨sl, env, lo, hp, df⟩ ⟨sl, env', lo', hp', df'⟩) (h : XOS T call bx ops l sl env' lo' hp' df' cm Qn) : XOS T call bx ops ((o, []) :: l) sl env lo hp df cm Qn := by
  intro r hr
  obtain ⟨r', h1, h2⟩ := hs r hr
  have hw : want ops r o = some true := by rw [← hg]; unfold want; rw [hr.env]
  simp only [runOps, hw, oop_some h1, reck, if_true]
  exact h r' h2
theorem xs_skip (hg : Asked ops env o false) (hd : o.dst = some d) (h : XOS T call bx ops l sl ((d, .v undefA) :: env) lo hp df cm Qn) : XOS T call bx ops ((o, []) :: l) sl env lo hp df cm Qn := by
  intro r hr
  have hw : want ops r o = some false := by rw [← hg]; unfold want; rw [hr.env]
  simp only [runOps, hw]
  have := hr.put o.dst (.v undefA)
  rw [hd] at this ⊢
  exact h _ this
theorem xs_run : ∀ (n : Nat) {l l' : List (Oper × List Nat)} {env : List (Nat × Slot)}, runA T ops sl lo hp df n l env = some env' → l.drop n = l' → XOS T call bx ops l' sl env' lo hp df cm Qn → XOS T call bx ops l sl env lo hp df cm Qn
  | 0, l, l', env, h, hl, hx => by
    simp only [runA, Option.some.injEq] at h
    simp only [List.drop_zero] at hl
    subst h; subst hl; exact hx
  | n + 1, [], l', env, h, hl, hx => by simp [runA] at h
  | n + 1, (o, []) :: l, l', env, h, hl, hx => by
    simp only [runA] at h
    split at h
    · rename_i d hg hd hi
      split at h
      · rename_i y hy
        have := stp_pure (call := call) (bx := bx) (ropA_sound hy) hi
        rw [hd] at this
        exact xs_cons hg this (xs_run n h hl hx)
      · cases h
    · exact xs_skip (by unfold Asked; assumption) (by assumption) (xs_run n h hl hx)
    · cases h
  | n + 1, (o, w :: ws) :: l, l', env, h, hl, hx => by simp [runA] at h
theorem xs_pure (hg : Asked ops env o true) (hp1 : POp T ⟨sl, env, lo, hp, df⟩ o.op y) (hi : isRop o.op = true) (hd : o.dst = some d) (h : XOS T call bx ops l sl ((d, y) :: env) lo hp df cm Qn) : XOS T call bx ops ((o, []) :: l) sl env lo hp df cm Qn := by
  have := stp_pure (call := call) (bx := bx) hp1 hi
  rw [hd] at this
  exact xs_cons hg this h
theorem xs_storeH {t b off : Nat} {a x : Operand} {ti : TI} {k : Blk} {c' : List AV} (hg : Asked ops env o true) (ho : o.op = .store t a x) (hd : o.dst = none) (hT : T t = some ti) (ha : AS.slot ⟨sl, env, lo, hp, df⟩ a = some (.v (.ptr b off))) (hv : AS.val ⟨sl, env, lo, hp, df⟩ x = some v)
    (h1 : (Nat.beq v.cells.length ti.size && v.cells.all AV.one) = true) (hl : hp.get b = some k) (hw : wr k.cells off v.cells = some c')
    (h : XOS T call bx ops l sl env lo (hp.put b ⟨k.ty, c'⟩) df cm Qn) : XOS T call bx ops ((o, []) :: l) sl env lo hp df cm Qn := by
  have := stp_storeH (call := call) (bx := bx) ho hT ha hv h1 hl hw
  rw [hd] at this
  exact xs_cons hg this h
theorem xs_recoverP {args : Array Operand} {ts : Array Nat} (hg : Asked ops env o true) (ho : o.op = .call ⟨.builtin .recover, args, ts⟩) (hd : o.dst = some d) (h : XOS T call bx ops l sl ((d, .v v) :: env) lo hp df .recd Qn) : XOS T call bx ops ((o, []) :: l) sl env lo hp df (.pan v) Qn := by
  intro r hr
  have hw : want ops r o = some true := by rw [← hg]; unfold want; rw [hr.env]
  simp only [runOps, hw, oop, ho, oCall, oBuiltin, oRecover, reck, if_true]
  have := hr.put o.dst (.v v)
  rw [hd] at this ⊢
  exact h _ this
theorem xs_recoverN {args : Array Operand} {ts : Array Nat} (hg : Asked ops env o true) (ho : o.op = .call ⟨.builtin .recover, args, ts⟩) (hd : o.dst = some d) (h : XOS T call bx ops l sl ((d, .v .nilif) :: env) lo hp df .ret Qn) : XOS T call bx ops ((o, []) :: l) sl env lo hp df .ret Qn := by
  intro r hr
  have hw : want ops r o = some true := by rw [← hg]; unfold want; rw [hr.env]
  simp only [runOps, hw, oop, ho, oCall, oBuiltin, oRecover, reck, if_true]
  have := hr.put o.dst (.v .nilif)
  rw [hd] at this ⊢
  exact h _ this
end

def XS (T : Nat → Option TI) (call : CallF) (h : FH) (N : Nat) (c : Code) (sl : List (Nat × Slot)) (lo : List (Nat × List AV)) (hp : Hp) (df : List (Nat × List AV)) (cm : CM) (Q : QS) : Prop :=
  ∀ st, RepS N ⟨sl, [], lo, hp, df⟩ st → ∃ e st' cm', execSL T call h c st cm = some (e, st', cm') ∧ ∃ sl' lo' hp' df', RepS N ⟨sl', [], lo', hp', df'⟩ st' ∧ Q e sl' lo' hp' df' cm'
def ThenS (T : Nat → Option TI) (call : CallF) (h : FH) (N : Nat) (b : Code) (Q : QS) : QS
  | .normal, sl, lo, hp, df, cm => XS T call h N b sl lo hp df cm Q
  | e, sl, lo, hp, df, cm => Q e sl lo hp df cm
section
variable {T : Nat → Option TI} {call : CallF} {h : FH} {N : Nat} {sl sl' : List (Nat × Slot)} {lo lo' : List (Nat × List AV)} {hp : Hp} {df : List (Nat × List AV)} {cm : CM} {Q : QS}
theorem xs_seq {a b : Code} (hx : XS T call h N a sl lo hp df cm (ThenS T call h N b Q)) : XS T call h N (.seq a b) sl lo hp df cm Q := by
  intro st hst
  obtain ⟨e, st1, c1, h1, sl', lo', hp', df', h2, h3⟩ := hx st hst
  simp only [execSL, h1]
  cases e with
  | normal => exact h3 st1 h2
  | exit i => exact ⟨_, _, _, rfl, sl', lo', hp', df', h2, h3⟩
  | ret => exact ⟨_, _, _, rfl, sl', lo', hp', df', h2, h3⟩
  | panic v => exact ⟨_, _, _, rfl, sl', lo', hp', df', h2, h3⟩
theorem xs_cond {c : Operand} {a b : Code} {p : Bool} (hc : AS.slot ⟨sl, [], lo, hp, df⟩ c = some (.v (.bool p))) (ha : p = true → XS T call h N a sl lo hp df cm Q) (hb : p = false → XS T call h N b sl lo hp df cm Q) : XS T call h N (.cond c a b) sl lo hp df cm Q := by
  intro st hst
  have hcs : slotS st.sl c = some (.v (.bool p)) := by
    rcases hst.slot hc with hh | ⟨f, rfl⟩
    · exact hh
    · simp [AS.slot] at hc
  simp only [execSL, hcs]
  cases p with
  | true => exact ha rfl st hst
  | false => exact hb rfl st hst
theorem xs_skipC (hq : Q .normal sl lo hp df cm) : XS T call h N .skip sl lo hp df cm Q := fun st hst => ⟨_, _, _, rfl, sl, lo, hp, df, hst, hq⟩
theorem xs_retC (hq : Q .ret sl lo hp df cm) : XS T call h N .ret sl lo hp df cm Q := fun st hst => ⟨_, _, _, rfl, sl, lo, hp, df, hst, hq⟩
theorem xs_nf {c : Code} (hn : NF sl sl') (hx : XS T call h N c sl' lo hp df cm Q) : XS T call h N c sl lo hp df cm Q := by rw [hn.eq]; exact hx
theorem xs_region {id : Nat} {ops : Array Oper} (hN : (h.rh id).out.all (fun t => Nat.blt t N) = true)
    (hx : XOS T call h.bx ops.toList (ops.toList.map fun o => (o, [])) sl [] lo hp df cm (fun env lo hp df cm => Q .normal (outs env (h.rh id).out sl) lo hp df cm)) : XS T call h N (.region id ops false) sl lo hp df cm Q := by
  intro st hst
  have hr : Rep ⟨sl, [], lo, hp, df⟩ ⟨st.sl, [], st.lo, st.hp, st.df⟩ := ⟨rfl, hst.sl, hst.lo, hst.hp, hst.df⟩
  obtain ⟨r', cm', h1, env', lo', hp', df', hr', hq⟩ := hx _ hr
  have hb : ∀ t ∈ (h.rh id).out, t < st.sl.length := by
    intro t ht
    rw [List.all_eq_true] at hN
    exact Nat.lt_of_lt_of_le (Nat.le_of_ble_eq_true (hN t ht)) hst.len
  refine ⟨.normal, ⟨setOut r'.env (h.rh id).out st.sl, r'.lo, r'.hp, r'.df⟩, cm', by simp only [execSL, runRegion, Bool.false_eq_true, if_false, h1], _, _, _, _, ?_, hq⟩
  exact ⟨by simp only [setOut_len]; exact hst.len, rfl, by rw [hr'.env]; exact outs_spec env' _ _ _ hb hst.sl, hr'.lo, hr'.hp, hr'.df⟩

variable {F : Nat → Option Func} {H : Nat → FH}
/-- A deferred function answers. -/
def DAns (T : Nat → Option TI) (F : Nat → Option Func) (H : Nat → FH) (f : Nat) (args : List AV) (cm : CM) (hp : Hp) (Φ : CM → Hp → Prop) : Prop := ∃ cm' hp', callDL T F H (evalL T F H) f args cm hp = some (cm', hp') ∧ Φ cm' hp'
def EndsS (T : Nat → Option TI) (fn : Func) (Φ : CM → Hp → Prop) : QS := fun e sl lo hp df cm => (e = .normal ∨ e = .ret) ∧ df = [] ∧ (∃ l, resA T ⟨sl, [], lo, hp, []⟩ fn.results.toList = some l) ∧ Φ cm hp
theorem dans_of {f : Nat} {fn : Func} {c : Code} {args : List AV} {hp : Hp} {Φ : CM → Hp → Prop} (hf : F f = some fn) (hl : Nat.beq args.length (arity fn) = true) (hb : fn.body = some c) (hN : Nat.ble fn.ntmps (st0 fn args hp).sl.length = true)
    (hx : XS T (evalL T F H) (H f) fn.ntmps c (initA 0 args) [] hp [] cm (EndsS T fn Φ)) : DAns T F H f args cm hp Φ := by
  have hst : RepS fn.ntmps ⟨initA 0 args, [], [], hp, []⟩ (st0 fn args hp) := by
    refine ⟨Nat.le_of_ble_eq_true hN, rfl, fun t y hy => ?_, fun u c hc => by simp [lkc] at hc, rfl, rfl⟩
    obtain ⟨i, a, rfl, h2, rfl⟩ := initA_lk args 0 t y hy
    simp only [st0, Nat.zero_add]
    rw [List.getElem?_append_left (by simp; exact (List.getElem?_eq_some_iff.1 h2).1)]
    simp [h2]
  obtain ⟨e, st', cm', h1, sl', lo', hp1, df', h2, he, rfl, ⟨l, hl2⟩, hΦ⟩ := hx _ hst
  have e1 : st'.hp = hp1 := h2.hp
  have e2 : st'.df = [] := h2.df
  refine ⟨cm', hp1, ?_, hΦ⟩
  have hr : resV T st' fn.results.toList = some l := resA_spec h2 hl2
  rcases he with rfl | rfl
  · simp only [callDL, hf, hl, Bool.not_true, cond_false, hb, h1, e2, List.isEmpty_nil, if_true, hr, e1]
  · simp only [callDL, hf, hl, Bool.not_true, cond_false, hb, h1, e2, List.isEmpty_nil, if_true, hr, e1]
def CM.fin : CM → CM
  | .recd => .ret
  | c => c
/-- The way out through the deferred functions. -/
def Lv (T : Nat → Option TI) (F : Nat → Option Func) (H : Nat → FH) (fn : Func) (Φ : Res → Hp → Prop) (sl : List (Nat × Slot)) (lo : List (Nat × List AV)) : List (Nat × List AV) → CM → Hp → Prop
  | [], .pan v, hp => Φ (.panic v) hp
  | [], _, hp => ∃ l, resA T ⟨sl, [], lo, hp, []⟩ fn.results.toList = some l ∧ Φ (.ret (oneR l)) hp
  | (f, args) :: ds, cm, hp => DAns T F H f args cm hp fun cm' hp' => Lv T F H fn Φ sl lo ds cm'.fin hp'
theorem lv_leave {fn : Func} {Φ : Res → Hp → Prop} {st : St} : ∀ (ds : List (Nat × List AV)) (cm : CM) (hp : Hp), RepS N ⟨sl, [], lo, st.hp, st.df⟩ st → Lv T F H fn Φ sl lo ds cm hp → ∃ r hp', leave T (callDL T F H (evalL T F H)) fn st ds cm hp = some (r, hp') ∧ Φ r hp'
  | [], cm, hp, hst, hl => by
    have key : (∃ l, resA T ⟨sl, [], lo, hp, []⟩ fn.results.toList = some l ∧ Φ (.ret (oneR l)) hp) → ∃ r hp', (match resV T { st with hp := hp } fn.results.toList with
      | some [v] => some (Res.ret v, hp)
      | some l => some (.ret (.tup l), hp)
      | none => none) = some (r, hp') ∧ Φ r hp' := by
      rintro ⟨l, h1, h2⟩
      have : RepS N ⟨sl, [], lo, hp, st.df⟩ { st with hp := hp } := ⟨hst.len, rfl, hst.sl, hst.lo, rfl, rfl⟩
      have h3 : resA T ⟨sl, [], lo, hp, st.df⟩ fn.results.toList = some l := by
        rw [← h1]
        generalize fn.results.toList = rs
        induction rs with
        | nil => rfl
        | cons a rs ih => cases a <;> simp only [resA, ih] <;> rfl
      have h4 : resV T ⟨st.sl, st.lo, hp, st.df⟩ fn.results.toList = some l := resA_spec this h3
      refine ⟨.ret (oneR l), hp, ?_, h2⟩
      rw [h4]
      cases l with
      | nil => rfl
      | cons x l => cases l <;> rfl
    cases cm with
    | pan v => exact ⟨_, _, rfl, hl⟩
    | ret => exact key hl
    | recd => exact key hl
  | (f, args) :: ds, cm, hp, hst, hl => by
    obtain ⟨cm', hp', h1, h2⟩ := hl
    simp only [leave, h1]
    have := lv_leave ds cm'.fin hp' hst h2
    cases cm' <;> exact this
theorem ends_lv {fn : Func} {Φ : Res → Hp → Prop} {e : AExit} {cm : CM} (he : endCM e = some cm) (hl : Lv T F H fn Φ sl lo df cm hp) : Ends T F H N fn Φ e sl lo hp df := by
  intro st hst
  have e1 : st.hp = hp := hst.hp
  have e2 : st.df = df := hst.df
  subst e1; subst e2
  obtain ⟨r, hp', h1, h2⟩ := lv_leave st.df cm st.hp hst hl
  exact ⟨cm, he, r, hp', h1, h2⟩
theorem resA_nil {s : AS} : resA T s [] = some [] := rfl
theorem resA_tmp {s : AS} {t : Nat} {rs : List ResultVar} {l : List AV} {v : AV} (h : s.slot (.tmp t) = some (.v v)) (hl : resA T s rs = some l) : resA T s (.tmp t :: rs) = some (v :: l) := by
  simp only [resA, h, hl, Option.map_some]
theorem resA_cell {s : AS} {a t : Nat} {rs : List ResultVar} {l cs : List AV} {v p : AV} {ti : TI} (hT : T t = some ti) (h : s.slot (.tmp a) = some (.v p)) (hr : RS.rd ⟨[], [], [], s.hp, []⟩ (.v p) ti.size = some cs) (hm : mkv ti cs = some v) (hl : resA T s rs = some l) : resA T s (.cell a t :: rs) = some (v :: l) := by
  simp only [resA, hT, h, hr, hm, hl, Option.map_some]
theorem part_all {cs : List AV} {n : Nat} (h : cs.length = n) : part cs 0 n = some cs := by
  rw [part_some]
  exact ⟨by omega, by rw [List.drop_zero, List.take_of_length_le (by omega)]⟩
end
end Go.Eng

/- ENGINE 33: memory of which nothing older than a place changes. -/
set_option linter.unusedVariables false
set_option linter.unusedSimpArgs false
namespace Go.Eng
open Go

structure GL (w : Nat) (h h' : Hp) : Prop where
  n : h.n ≤ h'.n
  get : ∀ b, b < w → h'.get b = h.get b
theorem GL.refl (w : Nat) (h : Hp) : GL w h h := ⟨Nat.le_refl _, fun _ _ => rfl⟩
theorem GL.trans {w : Nat} {h1 h2 h3 : Hp} (a : GL w h1 h2) (b : GL w h2 h3) : GL w h1 h3 := ⟨Nat.le_trans a.n b.n, fun c hc => (b.get c hc).trans (a.get c hc)⟩
theorem GL.put {w : Nat} {h h' : Hp} (g : GL w h h') {b : Nat} (hb : w ≤ b) (x : Blk) : GL w h (h'.put b x) := ⟨g.n, fun c hc => by rw [Hp.get_put, if_neg (by omega)]; exact g.get c hc⟩
theorem Grow.gl {h h' : Hp} (g : Grow h h') {w : Nat} (hw : w ≤ h.n) : GL w h h' := ⟨g.n, fun b hb => g.get b (by omega)⟩
theorem GL.weak {w v : Nat} {h h' : Hp} (g : GL w h h') (hv : v ≤ w) : GL v h h' := ⟨g.n, fun b hb => g.get b (by omega)⟩
theorem GL.grow {w : Nat} {h0 h h' : Hp} (g0 : Grow h0 h) (g : GL w h h') (hw : h0.n ≤ w) : Grow h0 h' := ⟨Nat.le_trans g0.n g.n, fun b hb => by rw [g.get b (by omega)]; exact g0.get b hb⟩
theorem SlF.app {b0 : Nat} {h : Hp} {sz e bytes : Nat} {x : AV} {es : List (List AV)} (s : SlF b0 h sz x es) (hb0 : b0 ≤ h.n) (new : List (List AV)) (hnew : ∀ a ∈ new, a.length = sz) (hlen : es.length + new.length ≤ 68719476736) (hby : bytes ≤ 2000) :
    ∃ v h', appF h e sz bytes x new.flatten new.length = some (v, h') ∧ SlF b0 h' sz v (es ++ new) ∧ GL b0 h h' := by
  by_cases h0 : new.length = 0
  · have : new = [] := List.eq_nil_of_length_eq_zero h0
    subst this
    refine ⟨x, h, ?_, by simpa using s, .refl _ _⟩
    cases s <;> simp [appF]
  · cases s with
    | nil =>
      refine ⟨_, _, by simp only [appF, if_neg h0]; rw [if_pos ⟨by simp at hlen; omega, hby⟩], ?_, (Grow.push _ _).gl hb0⟩
      exact slf_new hb0 hnew
    | @own b off cap k es hb1 hb hk hp he =>
      have hd : (dropB h b cap (es.length + new.length)).n = h.n := by
        unfold dropB
        cases cap with
        | none => rfl
        | some c => simp only; cases Nat.ble (es.length + new.length) c <;> rfl
      have gk : GL b0 h (h.kill b) := ⟨Nat.le_refl _, fun c hc => by rw [Hp.get_kill, if_neg (by omega)]⟩
      have gd : GL b0 h (dropB h b cap (es.length + new.length)) := by
        unfold dropB
        cases cap with
        | none => exact gk
        | some c =>
          simp only
          cases Nat.ble (es.length + new.length) c with
          | true => exact gk
          | false => exact .refl _ _
      refine ⟨.sl h.n 0 (es.length + new.length) sz none, (dropB h b cap (es.length + new.length)).push ⟨e, es.flatten ++ new.flatten⟩, ?_, ?_, gd.trans ((Grow.push _ _).gl (by rw [hd]; exact hb0))⟩
      · simp only [appF, if_neg h0, hk, hp]
        rw [if_pos (by exact ⟨hlen, hby, trivial⟩)]
      · have := slf_new (b0 := b0) (h := dropB h b cap (es.length + new.length)) (e := e) (es := es ++ new) (cap := none) (by rw [hd]; exact hb0) (sz := sz) (fun a ha => by
          rcases List.mem_append.1 ha with ha | ha
          · exact he a ha
          · exact hnew a ha)
        rw [hd, List.length_append, List.flatten_append] at this
        exact this
theorem SlF.each {b0 : Nat} {h : Hp} {sz : Nat} {x : AV} {es : List (List AV)} (s : SlF b0 h sz x es) : ∀ a ∈ es, a.length = sz := by
  cases s with
  | nil => simp
  | own _ _ _ _ he => exact he
def bodyOf (fn : Func) : Code := fn.body.getD .skip
end Go.Eng

/- ENGINE 34: values of a second kind, in which a slice is a list of rows: what they stand for. -/
set_option linter.unusedVariables false
set_option linter.unusedSimpArgs false
namespace Go.Eng
open Go

/-- Values of the second kind. 'ls': a slice's rows; 'own' = tag + 1, where it may be appended to; 'm': the tags of the memory that it leads to. 'ptr', 'sl': into an object (a tag). 'ro': into a row that is only read. -/
inductive BV where
  | bool (b : Bool)
  | int (k : IntKind) (n : Int)
  | str (s : List UInt8)
  | nilp
  | nils
  | nilfn
  | nilif
  | any
  | ai (k : IntKind)
  | sx
  | ptr (t off : Nat)
  | sl (t off len sz : Nat)
  | ls (es : List (List BV)) (sz own m : Nat)
  | ro (cs : List BV) (off m : Nat)
  | fn (f : Nat) (cap : List BV)
  | iface (t : Nat) (v : BV)
  | agg (cs : List BV)
  | tup (vs : List BV)
  deriving Inhabited

def BV.one : BV → Bool
  | .agg _ | .tup _ | .any => false
  | _ => true
def BV.cells : BV → List BV
  | .agg cs => cs
  | v => [v]
/-- Those that are the same in both kinds. -/
def scB : AV → Option BV
  | .bool b => some (.bool b)
  | .int k n => some (.int k n)
  | .str s => some (.str s)
  | .nilp => some .nilp
  | .nilfn => some .nilfn
  | .nilif => some .nilif
  | _ => none
def toA : BV → Option AV
  | .bool b => some (.bool b)
  | .int k n => some (.int k n)
  | .str s => some (.str s)
  | .nilp => some .nilp
  | .nilfn => some .nilfn
  | .nilif => some .nilif
  | _ => none
theorem toA_iff {b : BV} {a : AV} : toA b = some a ↔ scB a = some b := by
  cases a <;> cases b <;> simp [toA, scB] <;> try exact ⟨fun h => by simp [h], fun h => by simp [h]⟩
  all_goals first | exact eq_comm | (constructor <;> (rintro ⟨rfl, rfl⟩; exact ⟨rfl, rfl⟩))

/-- What is kept of the memory by no program: each block's tag; where an object lies. -/
structure Gh where
  om : Nat → Nat
  pi : Nat → Option (Nat × Nat)

/-- The tag of an object's memory. -/
def tg (t : Nat) : Nat := bif Nat.blt t 128 then 1000 + t else bif Nat.blt t 1128 then t - 128 else t
theorem blt_t {a b : Nat} (h : a < b) : Nat.blt a b = true := by rw [Nat.blt, Nat.ble_eq]; omega
theorem blt_f {a b : Nat} (h : ¬ a < b) : Nat.blt a b = false := by
  cases hb : Nat.blt a b with
  | false => rfl
  | true => rw [Nat.blt, Nat.ble_eq] at hb; omega
theorem tg_lo {t : Nat} (h : t < 128) : tg t = 1000 + t := by simp only [tg, blt_t h, cond_true]
theorem tg_mid {t : Nat} (h : ¬ t < 128) (h2 : t < 1128) : tg t = t - 128 := by simp only [tg, blt_f h, blt_t h2, cond_true, cond_false]
theorem tg_hi {t : Nat} (h2 : ¬ t < 1128) : tg t = t := by simp only [tg, blt_f (show ¬ t < 128 by omega), blt_f h2, cond_false]
theorem tg_inj {a b : Nat} (h : tg a = tg b) : a = b := by
  by_cases a1 : a < 128
  · by_cases b1 : b < 128
    · rw [tg_lo a1, tg_lo b1] at h; omega
    · by_cases b2 : b < 1128
      · rw [tg_lo a1, tg_mid b1 b2] at h; omega
      · rw [tg_lo a1, tg_hi b2] at h; omega
  · by_cases a2 : a < 1128
    · by_cases b1 : b < 128
      · rw [tg_mid a1 a2, tg_lo b1] at h; omega
      · by_cases b2 : b < 1128
        · rw [tg_mid a1 a2, tg_mid b1 b2] at h; omega
        · rw [tg_mid a1 a2, tg_hi b2] at h; omega
    · by_cases b1 : b < 128
      · rw [tg_hi a2, tg_lo b1] at h; omega
      · by_cases b2 : b < 1128
        · rw [tg_hi a2, tg_mid b1 b2] at h; omega
        · rw [tg_hi a2, tg_hi b2] at h; omega
/-- An object that was handed in. -/
def hi (t : Nat) : Bool := (Nat.ble 64 t && Nat.blt t 128) || Nat.ble 300 t
theorem hi_64 {t : Nat} (h : hi t = true) : 64 ≤ t := by
  simp only [hi, Bool.or_eq_true, Bool.and_eq_true, Nat.ble_eq] at h; omega

def partG {α : Type} (cells : List α) (off n : Nat) : Option (List α) := bif Nat.ble (off + n) cells.length then some ((cells.drop off).take n) else none
def wrG {α : Type} (cells : List α) (off : Nat) (vs : List α) : Option (List α) :=
  bif Nat.ble (off + vs.length) cells.length then some (cells.take off ++ vs ++ cells.drop (off + vs.length)) else none
theorem part_eq (cells : List AV) (off n : Nat) : part cells off n = partG cells off n := rfl
theorem wr_eq (cells : List AV) (off : Nat) (vs : List AV) : wr cells off vs = wrG cells off vs := rfl
theorem partG_some {α : Type} {cs : List α} {off n : Nat} {l : List α} : partG cs off n = some l ↔ off + n ≤ cs.length ∧ l = (cs.drop off).take n := by
  unfold partG
  cases hb : Nat.ble (off + n) cs.length with
  | true => simp only [cond_true, Option.some.injEq]; rw [Nat.ble_eq] at hb; exact ⟨fun h => ⟨hb, h.symm⟩, fun h => h.2.symm⟩
  | false =>
    simp only [cond_false, reduceCtorEq, false_iff]
    rintro ⟨h1, _⟩
    rw [← Nat.ble_eq, hb] at h1; cases h1
theorem wrG_some {α : Type} {cs : List α} {off : Nat} {vs c : List α} : wrG cs off vs = some c ↔ off + vs.length ≤ cs.length ∧ c = cs.take off ++ vs ++ cs.drop (off + vs.length) := by
  unfold wrG
  cases hb : Nat.ble (off + vs.length) cs.length with
  | true => simp only [cond_true, Option.some.injEq]; rw [Nat.ble_eq] at hb; exact ⟨fun h => ⟨hb, h.symm⟩, fun h => h.2.symm⟩
  | false =>
    simp only [cond_false, reduceCtorEq, false_iff]
    rintro ⟨h1, _⟩
    rw [← Nat.ble_eq, hb] at h1; cases h1

/-- Two rows, member by member. -/
def L2 {α β : Type} (R : α → β → Prop) (l : List α) (m : List β) : Prop := l.length = m.length ∧ ∀ (i : Nat) a b, l[i]? = some a → m[i]? = some b → R a b
section
variable {α β : Type} {R : α → β → Prop}
theorem L2.nil : L2 R [] [] := ⟨rfl, fun i a b h => by simp at h⟩
theorem L2.cons {a : α} {b : β} {l : List α} {m : List β} (h : R a b) (k : L2 R l m) : L2 R (a :: l) (b :: m) := ⟨by simp [k.1], fun i x y hx hy => by
  cases i with
  | zero => simp only [List.getElem?_cons_zero, Option.some.injEq] at hx hy; subst hx hy; exact h
  | succ i => exact k.2 i x y (by simpa using hx) (by simpa using hy)⟩
theorem L2.nil_r {l : List α} (h : L2 R l []) : l = [] := List.eq_nil_of_length_eq_zero h.1
theorem L2.nil_l {m : List β} (h : L2 R [] m) : m = [] := List.eq_nil_of_length_eq_zero h.1.symm
theorem L2.cons_r {l : List α} {b : β} {m : List β} (h : L2 R l (b :: m)) : ∃ a l', l = a :: l' ∧ R a b ∧ L2 R l' m := by
  cases l with
  | nil => have := h.1; simp at this
  | cons a l => exact ⟨a, l, rfl, h.2 0 a b rfl rfl, by have := h.1; simp at this; exact this, fun i x y hx hy => h.2 (i + 1) x y (by simpa using hx) (by simpa using hy)⟩
theorem L2.append {l l' : List α} {m m' : List β} (h : L2 R l m) (k : L2 R l' m') : L2 R (l ++ l') (m ++ m') := ⟨by simp [h.1, k.1], fun i x y hx hy => by
  by_cases hi : i < l.length
  · rw [List.getElem?_append_left hi] at hx
    rw [List.getElem?_append_left (by rw [← h.1]; exact hi)] at hy
    exact h.2 i x y hx hy
  · rw [List.getElem?_append_right (by omega)] at hx
    rw [List.getElem?_append_right (by rw [← h.1]; omega), ← h.1] at hy
    exact k.2 _ x y hx hy⟩
theorem L2.take {l : List α} {m : List β} (h : L2 R l m) (n : Nat) : L2 R (l.take n) (m.take n) := ⟨by simp [h.1], fun i x y hx hy => by
  rw [List.getElem?_take] at hx hy
  split at hx
  · rename_i hi; rw [if_pos hi] at hy; exact h.2 i x y hx hy
  · cases hx⟩
theorem L2.drop {l : List α} {m : List β} (h : L2 R l m) (n : Nat) : L2 R (l.drop n) (m.drop n) := ⟨by simp [h.1], fun i x y hx hy => by
  rw [List.getElem?_drop] at hx hy; exact h.2 _ x y hx hy⟩
theorem L2.imp {R' : α → β → Prop} {l : List α} {m : List β} (h : L2 R l m) (k : ∀ a b, b ∈ m → R a b → R' a b) : L2 R' l m := ⟨h.1, fun i a b ha hb => k a b (List.mem_of_getElem? hb) (h.2 i a b ha hb)⟩
theorem L2.get {l : List α} {m : List β} (h : L2 R l m) {i : Nat} {b : β} (hb : m[i]? = some b) : ∃ a, l[i]? = some a ∧ R a b := by
  have hi : i < l.length := by rw [h.1]; exact (List.getElem?_eq_some_iff.1 hb).1
  exact ⟨l[i], by simp [hi], h.2 i _ _ (by simp [hi]) hb⟩
theorem L2.part {l : List α} {m : List β} (h : L2 R l m) {off n : Nat} {m' : List β} (hp : partG m off n = some m') : ∃ l', partG l off n = some l' ∧ L2 R l' m' := by
  rw [partG_some] at hp
  exact ⟨_, partG_some.2 ⟨by rw [h.1]; exact hp.1, rfl⟩, by rw [hp.2]; exact (h.drop off).take n⟩
theorem L2.wr {l : List α} {m : List β} (h : L2 R l m) {off : Nat} {vs : List α} {us : List β} (hv : L2 R vs us) {m' : List β} (hw : wrG m off us = some m') : ∃ l', wrG l off vs = some l' ∧ L2 R l' m' := by
  rw [wrG_some] at hw
  exact ⟨_, wrG_some.2 ⟨by rw [h.1, hv.1]; exact hw.1, rfl⟩, by rw [hw.2, hv.1]; exact ((h.take off).append hv).append (h.drop _)⟩
theorem L2.map_r {γ : Type} {R' : α → γ → Prop} {l : List α} {m : List β} {f : β → γ} (h : L2 R l m) (k : ∀ a b, b ∈ m → R a b → R' a (f b)) : L2 R' l (m.map f) := ⟨by simp [h.1], fun i a c ha hc => by
  rw [List.getElem?_map, Option.map_eq_some_iff] at hc
  obtain ⟨b, hb, rfl⟩ := hc
  exact k a b (List.mem_of_getElem? hb) (h.2 i a b ha hb)⟩
end

/-- Old memory bears the tag of block 0, which is never used. -/
def Old (om : Nat → Nat) (h : Hp) (E : Nat) : Prop := 0 < h.n ∧ om 0 < 1000 ∧ E.testBit (om 0) = true
/-- What lies in the rows of a slice; 'E': the tags that its memory may bear. -/
inductive VN (om : Nat → Nat) (h : Hp) (E : Nat) : AV → BV → Prop
  | sc {a b} (hs : scB a = some b) : VN om h E a b
  | ai {k n} : VN om h E (.int k n) (.ai k)
  | sx {s} : VN om h E (.str s) .sx
  | lsN {sz} : VN om h E .nils (.ls [] sz 0 0)
  | lsA {a off len sz cap k es cs} (ha : a < h.n) (hk : h.get a = some k) (hm : om a < 1000 ∧ E.testBit (om a) = true) (hl : es.length = len) (hs : ∀ r ∈ es, r.length = sz) (hp : part k.cells off (len * sz) = some cs)
      (hn : cs.length = es.flatten.length) (hr : ∀ (i : Nat) x y, cs[i]? = some x → es.flatten[i]? = some y → VN om h E x y) : VN om h E (.sl a off len sz cap) (.ls es sz 0 0)
  | lsO {rs sz c es} (hm : Old om h E) (hl : rs.length = es.length) (hs1 : ∀ r ∈ rs, r.length = sz) (hs : ∀ r ∈ es, r.length = sz)
      (hn : rs.flatten.length = es.flatten.length) (hr : ∀ (i : Nat) x y, rs.flatten[i]? = some x → es.flatten[i]? = some y → VN om h E x y) : VN om h E (.rl rs sz c) (.ls es sz 0 0)
abbrev VNs (om : Nat → Nat) (h : Hp) (E : Nat) := L2 (VN om h E)

/-- What a value of the first kind has to do with one of the second. -/
inductive VB (G : Gh) (h : Hp) : AV → BV → Prop
  | any {a} : VB G h a .any
  | sc {a b} (hs : scB a = some b) : VB G h a b
  | ai {k n} : VB G h (.int k n) (.ai k)
  | sx {s} : VB G h (.str s) .sx
  | nils : VB G h .nils .nils
  | ptr {t a b o} (hp : G.pi t = some (a, b)) : VB G h (.ptr a (b + o)) (.ptr t o)
  | sl {t a b off len sz cap} (hp : G.pi t = some (a, b)) : VB G h (.sl a (b + off) len sz cap) (.sl t off len sz)
  | sl0 {t off sz} : VB G h .nils (.sl t off 0 sz)
  | lsN {sz own m} : VB G h .nils (.ls [] sz own m)
  | lsA {a off len sz cap k es cs own m} (ha : a < h.n) (hk : h.get a = some k) (hq : G.om a < 1000) (hm : own = 0 → m.testBit (G.om a) = true) (ho : own ≠ 0 → G.om a + 1 = own) (hl : es.length = len) (hs : ∀ r ∈ es, r.length = sz)
      (hp : part k.cells off (len * sz) = some cs) (hr : VNs G.om h m cs es.flatten) : VB G h (.sl a off len sz cap) (.ls es sz own m)
  | lsO {rs sz c es m} (hm : Old G.om h m) (hl : rs.length = es.length) (hs1 : ∀ r ∈ rs, r.length = sz) (hs : ∀ r ∈ es, r.length = sz) (hr : VNs G.om h m rs.flatten es.flatten) : VB G h (.rl rs sz c) (.ls es sz 0 m)
  | roA {a b off k cs as m} (ha : a < h.n) (hk : h.get a = some k) (hm : G.om a < 1000 ∧ m.testBit (G.om a) = true) (hp : part k.cells b cs.length = some as) (hr : VNs G.om h m as cs) : VB G h (.ptr a (b + off)) (.ro cs off m)
  | roO {as off cs m} (hm : Old G.om h m) (hr : VNs G.om h m as cs) : VB G h (.ro as off) (.ro cs off m)
  | fn {f as cs} (hn : as.length = cs.length) (hr : ∀ (i : Nat) x y, as[i]? = some x → cs[i]? = some y → VB G h x y) : VB G h (.fn f as) (.fn f cs)
  | iface {t a b} (hr : VB G h a b) : VB G h (.iface t a) (.iface t b)
  | agg {as cs} (hn : as.length = cs.length) (hr : ∀ (i : Nat) x y, as[i]? = some x → cs[i]? = some y → VB G h x y) : VB G h (.agg as) (.agg cs)
  | tup {as cs} (hn : as.length = cs.length) (hr : ∀ (i : Nat) x y, as[i]? = some x → cs[i]? = some y → VB G h x y) : VB G h (.tup as) (.tup cs)
abbrev VBs (G : Gh) (h : Hp) := L2 (VB G h)

/-- Does it stay where memory of the tags 'U' changes, and the objects 'D' go? -/
def BV.free (U D : Nat) : BV → Bool
  | .ptr t _ => !D.testBit t
  | .sl t _ _ _ => !D.testBit t
  | .ls _ _ own m => Nat.beq (m &&& U) 0 && (Nat.beq own 0 || !U.testBit (own - 1))
  | .ro _ _ m => Nat.beq (m &&& U) 0
  | .fn _ c => frees c
  | .iface _ v => v.free U D
  | .agg c => frees c
  | .tup c => frees c
  | _ => true
where frees : List BV → Bool
  | [] => true
  | v :: l => v.free U D && frees l
theorem frees_mem {U D : Nat} : ∀ {l : List BV}, BV.free.frees U D l = true → ∀ v ∈ l, v.free U D = true
  | [], _, v, hv => by simp at hv
  | a :: l, h, v, hv => by
    simp only [BV.free.frees, Bool.and_eq_true] at h
    rcases List.mem_cons.1 hv with rfl | hv
    · exact h.1
    · exact frees_mem h.2 v hv
theorem and_zero {E U t : Nat} (h : E &&& U = 0) (ht : E.testBit t = true) : U.testBit t = false := by
  cases hu : U.testBit t with
  | false => rfl
  | true =>
    have : (E &&& U).testBit t = true := by rw [Nat.testBit_and, ht, hu]; rfl
    rw [h] at this; simp at this
/-- How memory goes on: nothing but what bears a tag of 'P' changes. -/
structure Go1 (P : Nat → Bool) (om om' : Nat → Nat) (h h' : Hp) : Prop where
  n : h.n ≤ h'.n
  get : ∀ a, a < h.n → P (om a) = false → h'.get a = h.get a
  om : ∀ a, a < h.n → om' a = om a
theorem Go1.refl (P : Nat → Bool) (om : Nat → Nat) (h : Hp) : Go1 P om om h h := ⟨Nat.le_refl _, fun _ _ _ => rfl, fun _ _ => rfl⟩
theorem Go1.trans {P : Nat → Bool} {o1 o2 o3 : Nat → Nat} {h1 h2 h3 : Hp} (a : Go1 P o1 o2 h1 h2) (b : Go1 P o2 o3 h2 h3) : Go1 P o1 o3 h1 h3 :=
  ⟨Nat.le_trans a.n b.n, fun x hx hu => (b.get x (Nat.lt_of_lt_of_le hx a.n) (by rw [a.om x hx]; exact hu)).trans (a.get x hx hu), fun x hx => (b.om x (Nat.lt_of_lt_of_le hx a.n)).trans (a.om x hx)⟩
theorem Go1.imp {P P' : Nat → Bool} {om om' : Nat → Nat} {h h' : Hp} (g : Go1 P om om' h h') (k : ∀ a, a < h.n → P (om a) = true → P' (om a) = true) : Go1 P' om om' h h' :=
  ⟨g.n, fun a ha hp => g.get a ha (by cases hh : P (om a) with | false => rfl | true => rw [k a ha hh] at hp; cases hp), g.om⟩
/-- Of the tags of rows, no others than these change. -/
def Wi (P : Nat → Bool) (U : Nat) : Prop := ∀ t, t < 1000 → P t = true → U.testBit t = true
theorem Wi.no {P : Nat → Bool} {U E t : Nat} (hP : Wi P U) (hE : E &&& U = 0) (ht : t < 1000 ∧ E.testBit t = true) : P t = false := by
  cases hp : P t with
  | false => rfl
  | true =>
    have := hP t ht.1 hp
    rw [and_zero hE ht.2] at this
    cases this
theorem Old.keep {om om' : Nat → Nat} {h h' : Hp} {P : Nat → Bool} {E : Nat} (o : Old om h E) (g : Go1 P om om' h h') : Old om' h' E := ⟨Nat.lt_of_lt_of_le o.1 g.n, by rw [g.om 0 o.1]; exact o.2.1, by rw [g.om 0 o.1]; exact o.2.2⟩
theorem Old.weak {om : Nat → Nat} {h : Hp} {E E' : Nat} (hE : ∀ t, E.testBit t = true → E'.testBit t = true) (o : Old om h E) : Old om h E' := ⟨o.1, o.2.1, hE _ o.2.2⟩
theorem Old.ne {om : Nat → Nat} {h : Hp} (o : Old om h 0) : False := by have := o.2.2; simp at this
theorem VN.keep {om om' : Nat → Nat} {h h' : Hp} {P : Nat → Bool} {U E : Nat} {a : AV} {b : BV} (g : Go1 P om om' h h') (hP : Wi P U) (hE : E &&& U = 0) (v : VN om h E a b) : VN om' h' E a b := by
  induction v with
  | sc hs => exact .sc hs
  | ai => exact .ai
  | sx => exact .sx
  | lsN => exact .lsN
  | lsA ha hk hm hl hs hp hn hr ih => exact .lsA (Nat.lt_of_lt_of_le ha g.n) ((g.get _ ha (hP.no hE hm)).trans hk) (by rw [g.om _ ha]; exact hm) hl hs hp hn ih
  | lsO hm hl hs1 hs hn hr ih => exact .lsO (hm.keep g) hl hs1 hs hn ih
theorem ne0_sub {a b : Nat} (h : ∀ t, a.testBit t = true → b.testBit t = true) (ha : a ≠ 0) : b ≠ 0 := fun hb => ha (Nat.eq_of_testBit_eq fun t => by
  cases ht : a.testBit t with
  | false => simp
  | true => have := h t ht; rw [hb] at this; simp at this)
/-- More tags may be borne. -/
theorem VN.weak {om : Nat → Nat} {h : Hp} {E E' : Nat} {a : AV} {b : BV} (hE : ∀ t, E.testBit t = true → E'.testBit t = true) (v : VN om h E a b) : VN om h E' a b := by
  induction v with
  | sc hs => exact .sc hs
  | ai => exact .ai
  | sx => exact .sx
  | lsN => exact .lsN
  | lsA ha hk hm hl hs hp hn hr ih => exact .lsA ha hk ⟨hm.1, hE _ hm.2⟩ hl hs hp hn ih
  | lsO hm hl hs1 hs hn hr ih => exact .lsO (hm.weak hE) hl hs1 hs hn ih
theorem VB.keep {G G' : Gh} {h h' : Hp} {P : Nat → Bool} {U D : Nat} {a : AV} {b : BV} (g : Go1 P G.om G'.om h h') (hP : Wi P U) (hpi : ∀ t x, D.testBit t = false → G.pi t = some x → G'.pi t = some x) (v : VB G h a b) (hf : b.free U D = true) : VB G' h' a b := by
  induction v with
  | any => exact .any
  | sc hs => exact .sc hs
  | ai => exact .ai
  | sx => exact .sx
  | nils => exact .nils
  | ptr hp => simp only [BV.free, Bool.not_eq_true'] at hf; exact .ptr (hpi _ _ hf hp)
  | sl hp => simp only [BV.free, Bool.not_eq_true'] at hf; exact .sl (hpi _ _ hf hp)
  | sl0 => exact .sl0
  | lsN => exact .lsN
  | @lsA a off len sz cap k es cs own m ha hk hq hm ho hl hs hp hr =>
    simp only [BV.free, Bool.and_eq_true, Bool.or_eq_true, Nat.beq_eq, Bool.not_eq_true'] at hf
    have hu : P (G.om a) = false := by
      by_cases h0 : own = 0
      · exact hP.no hf.1 ⟨hq, hm h0⟩
      · rcases hf.2 with h1 | h1
        · exact absurd h1 h0
        · rw [← ho h0] at h1
          cases hp : P (G.om a) with
          | false => rfl
          | true =>
            have := hP _ hq hp
            simp only [Nat.add_sub_cancel] at h1
            rw [h1] at this; cases this
    exact .lsA (Nat.lt_of_lt_of_le ha g.n) ((g.get _ ha hu).trans hk) (by rw [g.om _ ha]; exact hq) (by rw [g.om _ ha]; exact hm) (by rw [g.om _ ha]; exact ho) hl hs hp (hr.imp fun _ _ _ v => v.keep g hP hf.1)
  | lsO hm hl hs1 hs hr =>
    simp only [BV.free, Bool.and_eq_true, Nat.beq_eq] at hf
    exact .lsO (hm.keep g) hl hs1 hs (hr.imp fun _ _ _ v => v.keep g hP hf.1)
  | roA ha hk hm hp hr =>
    simp only [BV.free, Nat.beq_eq] at hf
    exact .roA (Nat.lt_of_lt_of_le ha g.n) ((g.get _ ha (hP.no hf hm)).trans hk) (by rw [g.om _ ha]; exact hm) hp (hr.imp fun _ _ _ v => v.keep g hP hf)
  | roO hm hr =>
    simp only [BV.free, Nat.beq_eq] at hf
    exact .roO (hm.keep g) (hr.imp fun _ _ _ v => v.keep g hP hf)
  | fn hn hr ih =>
    simp only [BV.free] at hf
    exact .fn hn fun i x y hx hy => ih i x y hx hy (frees_mem hf y (List.mem_of_getElem? hy))
  | iface hr ih => simp only [BV.free] at hf; exact .iface (ih hf)
  | agg hn hr ih =>
    simp only [BV.free] at hf
    exact .agg hn fun i x y hx hy => ih i x y hx hy (frees_mem hf y (List.mem_of_getElem? hy))
  | tup hn hr ih =>
    simp only [BV.free] at hf
    exact .tup hn fun i x y hx hy => ih i x y hx hy (frees_mem hf y (List.mem_of_getElem? hy))
theorem VBs.keep {G G' : Gh} {h h' : Hp} {P : Nat → Bool} {U D : Nat} {l : List AV} {m : List BV} (g : Go1 P G.om G'.om h h') (hP : Wi P U) (hpi : ∀ t x, D.testBit t = false → G.pi t = some x → G'.pi t = some x) (v : VBs G h l m) (hf : BV.free.frees U D m = true) : VBs G' h' l m :=
  v.imp fun a b hb k => k.keep g hP hpi (frees_mem hf b hb)
theorem BV.free0 : ∀ b : BV, b.free 0 0 = true
  | .ptr t _ | .sl t _ _ _ => by simp [BV.free]
  | .ls _ _ own m => by simp [BV.free]
  | .ro _ _ m => by simp [BV.free]
  | .fn _ c => by simp only [BV.free]; exact fr c
  | .iface _ v => by simp only [BV.free]; exact BV.free0 v
  | .agg c => by simp only [BV.free]; exact fr c
  | .tup c => by simp only [BV.free]; exact fr c
  | .bool _ | .int _ _ | .str _ | .nilp | .nils | .nilfn | .nilif | .any | .ai _ | .sx => by simp [BV.free]
where fr : ∀ l : List BV, BV.free.frees 0 0 l = true
  | [] => rfl
  | v :: l => by simp only [BV.free.frees, BV.free0 v, fr l, Bool.and_self]
/-- Where no row changes and no object goes, all stays. -/
theorem VB.keep0 {G G' : Gh} {h h' : Hp} {P : Nat → Bool} {a : AV} {b : BV} (g : Go1 P G.om G'.om h h') (hP : ∀ t, t < 1000 → P t = false) (hpi : ∀ t x, G.pi t = some x → G'.pi t = some x) (v : VB G h a b) : VB G' h' a b :=
  v.keep (U := 0) (D := 0) g (fun t ht hp => by rw [hP t ht] at hp; cases hp) (fun t x _ => hpi t x) (BV.free0 b)

theorem scB_one {a : AV} {b : BV} (h : scB a = some b) : a.one = true := by cases a <;> simp [scB] at h <;> rfl
theorem scB_cells {a : AV} {b : BV} (h : scB a = some b) : a.cells = [a] ∧ b.cells = [b] := by
  cases a <;> simp [scB] at h <;> subst h <;> exact ⟨rfl, rfl⟩
theorem VB.one {G : Gh} {h : Hp} {a : AV} {b : BV} (v : VB G h a b) (h1 : b.one = true) : a.one = true := by
  cases v with
  | sc hs => exact scB_one hs
  | any => cases h1
  | agg => cases h1
  | tup => cases h1
  | _ => rfl
theorem VB.cells1 {G : Gh} {h : Hp} {a : AV} {b : BV} (v : VB G h a b) (h1 : b.one = true) : a.cells = [a] ∧ b.cells = [b] := by
  cases v with
  | sc hs => exact scB_cells hs
  | any => cases h1
  | agg => cases h1
  | tup => cases h1
  | _ => exact ⟨rfl, rfl⟩
theorem VB.cells {G : Gh} {h : Hp} {a : AV} {b : BV} (v : VB G h a b) (h1 : b.cells.all BV.one = true) : VBs G h a.cells b.cells ∧ a.cells.all AV.one = true := by
  have key : ∀ {l : List AV} {m : List BV}, VBs G h l m → m.all BV.one = true → l.all AV.one = true := by
    intro l m hlm hm
    rw [List.all_eq_true] at hm ⊢
    intro x hx
    obtain ⟨i, hi, rfl⟩ := List.mem_iff_getElem.1 hx
    have hi' : i < m.length := by rw [← hlm.1]; exact hi
    exact (hlm.2 i _ m[i] (by simp [hi]) (by simp [hi'])).one (hm _ (List.getElem_mem hi'))
  by_cases hone : b.one = true
  · obtain ⟨e1, e2⟩ := v.cells1 hone
    rw [e1, e2]
    exact ⟨.cons v .nil, by simp [v.one hone]⟩
  · cases v with
    | @agg as cs hn hr => exact ⟨⟨hn, hr⟩, key ⟨hn, hr⟩ h1⟩
    | sc hs => rw [(scB_cells hs).2] at h1; simp at h1; exact absurd h1 hone
    | any => simp [BV.cells, BV.one] at h1
    | tup => simp [BV.cells, BV.one] at h1
    | _ => exact absurd rfl hone
end Go.Eng
