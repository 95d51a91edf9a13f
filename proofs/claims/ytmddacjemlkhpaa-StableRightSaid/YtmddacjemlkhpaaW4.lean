/- Texts E51 to E55 of this proof, in one. -/
import Derived.Test.YtmddacjemlkhpaaW3
import Derived.SizedLaws
import Derived.ChangeArms
import Derived.ChangeOld
import Derived.Carry
import Derived.RowKit
import Derived.JoinedOf
/- ENGINE 51: deferred functions, and what recovers, over values of the second kind. -/
set_option linter.unusedVariables false
set_option linter.unusedSimpArgs false
namespace Go.Eng
open Go

/-- How the frame that leaves stands. -/
inductive BM where
  | ret
  | pan (v : BV)
  | recd
inductive CMr (G : Gh) (h : Hp) : CM → BM → Prop
  | ret : CMr G h .ret .ret
  | pan {a b} (hv : VB G h a b) : CMr G h (.pan a) (.pan b)
  | recd : CMr G h .recd .recd
def BM.free (U D : Nat) : BM → Bool
  | .pan v => v.free U D
  | _ => true
/-- Objects alone change. -/
def PO (t : Nat) : Bool := Nat.ble 1000 t
abbrev QNS := SL → SL → LO → LO → LO → BM → Prop
def XRS (T : Nat → Option TI) (call : CallF) (bx : List Nat) (ops : List Oper) (bs : Base) (l : List (Oper × List Nat)) (s : BS) (m : BM) (Q : QNS) : Prop :=
  ∀ G r cm, RepB G s r → Cg bs G r.hp → CMr G r.hp cm m → ∃ r' cm', runOps T call bx ops l r (some cm) = some (.ok r' (some cm')) ∧ ∃ s' m', RepB G s' r' ∧ Cg bs G r'.hp ∧ CMr G r'.hp cm' m' ∧ Go1 PO G.om G.om r.hp r'.hp ∧ Q s'.sl s'.env s'.lo s'.ob s'.df m'
section
variable {T : Nat → Option TI} {ZB : Nat → Option (List BV)} {call : CallF} {bx : List Nat} {ops : List Oper} {bs : Base} {l l' : List (Oper × List Nat)} {o : Oper} {sl env env' : SL} {lo lo' ob ob' df : LO} {Q : QNS} {d : Nat} {v : BV} {y : BSlot} {m : BM}
theorem xs'_end (h : Q sl env lo ob df m) : XRS T call bx ops bs [] ⟨sl, env, lo, ob, df⟩ m Q := fun G r cm hr hc hm => ⟨r, cm, rfl, _, m, hr, hc, hm, .refl _ _ _, h⟩
theorem xs'_pure (hw : wantB ops env o = some true) (hp1 : POpB T ⟨sl, env, lo, ob, df⟩ o.op y) (hi : isRop o.op = true) (hd : o.dst = some d) (h : XRS T call bx ops bs l ⟨sl, (d, y) :: env, lo, ob, df⟩ m Q) : XRS T call bx ops bs ((o, []) :: l) ⟨sl, env, lo, ob, df⟩ m Q := by
  intro G r cm hr hc hm
  obtain ⟨x, h1, h2⟩ := hp1 G r hr
  have := oop_some (c := cm) (oop_rop (o := o) (bx := bx) (call := call) rfl hi h1)
  simp only [runOps, wantB_sound hr hw, this, Eng.reck, if_true, hd]
  exact h G _ cm (hr.put h2 d) hc hm
theorem xs'_skip (hw : wantB ops env o = some false) (hd : o.dst = some d) (h : XRS T call bx ops bs l ⟨sl, (d, .v (.tup [])) :: env, lo, ob, df⟩ m Q) : XRS T call bx ops bs ((o, []) :: l) ⟨sl, env, lo, ob, df⟩ m Q := by
  intro G r cm hr hc hm
  simp only [runOps, wantB_sound hr hw, hd]
  exact h G _ cm (hr.put (x := .v undefA) (.v (.tup rfl fun i x y hx => by simp at hx)) d) hc hm
theorem xs'_run : ∀ (ZB : Nat → Option (List BV)) (n : Nat) {l l' : List (Oper × List Nat)} {env env' : SL}, runB T ZB ops [] sl lo ob df n l env = some env' → l.drop n = l' → XRS T call bx ops bs l' ⟨sl, env', lo, ob, df⟩ m Q → XRS T call bx ops bs l ⟨sl, env, lo, ob, df⟩ m Q
  | ZB, 0, l, l', env, env', h, hl, hx => by
    simp only [runB, Option.some.injEq] at h
    simp only [List.drop_zero] at hl
    subst h; subst hl; exact hx
  | ZB, n + 1, [], l', env, env', h, hl, hx => by simp [runB] at h
  | ZB, n + 1, (o, []) :: l, l', env, env', h, hl, hx => by
    simp only [runB] at h
    split at h
    · rename_i d hg hd hi
      simp only [pkNs, cond_true] at h
      split at h
      · rename_i y hy
        exact xs'_pure hg (ropB_sound hy) hi hd (xs'_run ZB n h hl hx)
      · cases h
    · rename_i d hg hd
      simp only [pkNs, cond_true] at h
      exact xs'_skip hg hd (xs'_run ZB n h hl hx)
    · cases h
  | ZB, n + 1, (o, w :: ws) :: l, l', env, env', h, hl, hx => by simp [runB] at h
theorem CMr.put {G : Gh} {h h' : Hp} {P : Nat → Bool} {cm : CM} (g : Go1 P G.om G.om h h') (hP : ∀ t, t < 1000 → P t = false) (hm : CMr G h cm m) : CMr G h' cm m := by
  cases hm with
  | ret => exact .ret
  | pan hv => exact .pan (hv.keep0 g hP fun _ _ h => h)
  | recd => exact .recd
theorem xs'_storeO {t τ off : Nat} {a x : Operand} {ti : TI} {c c' : List BV} (hw : wantB ops env o = some true) (ho : o.op = .store t a x) (hd : o.dst = none) (hT : T t = some ti) (ha : BS.slot ⟨sl, env, lo, ob, df⟩ a = some (.v (.ptr τ off))) (hv : BS.valT ZB ⟨sl, env, lo, ob, df⟩ t x = some v)
    (h1 : (Nat.beq v.cells.length ti.size && v.cells.all BV.one) = true) (hl : lkp ob τ = some c) (hwr : wrG c off v.cells = some c') (hP : loc (1000 + τ) = true ∨ bs.P (1000 + τ) = true)
    (h : XRS T call bx ops bs l ⟨sl, env, lo, setp ob τ c', df⟩ m Q) : XRS T call bx ops bs ((o, []) :: l) ⟨sl, env, lo, ob, df⟩ m Q := by
  intro G r cm hr hc hm
  obtain ⟨b, b1, b2⟩ := hr.valT hv
  simp only [Bool.and_eq_true] at h1
  obtain ⟨c1, c2⟩ := b2.cells h1.2
  obtain ⟨w, w1, w2⟩ := hr.slot ha
  cases w2 with
  | v hv2 =>
    obtain ⟨a0, b0, rfl, hpi⟩ := hv2.ptr_inv
    obtain ⟨k, ca, q1, q2, q3, q4⟩ := hr.setob hl c1 hwr hpi
    have hall : (Nat.beq b.cells.length ti.size && b.cells.all AV.one) = true := by rw [c1.1, h1.1, c2]; rfl
    have ho' : oop T call bx o r (some cm) = some (.ok { r with hp := r.hp.put a0 ⟨k.ty, ca⟩ } (some cm)) := by simp only [oop, ho, oStore, hT, w1, b1, hall, cond_true, RS.wrt, q1, wr_eq, q2, Option.map_some, hd, RS.put]
    simp only [runOps, wantB_sound hr hw, ho', Eng.reck, if_true]
    have q3' : Go1 PO G.om G.om r.hp (r.hp.put a0 ⟨k.ty, ca⟩) := q3.imp fun a _ hq => by
      have := Nat.eq_of_beq_eq_true hq
      unfold PO; rw [Nat.ble_eq]; omega
    have hcc : Cg bs G (r.hp.put a0 ⟨k.ty, ca⟩) := hc.step q3 (fun a ha hq => by
      have he := Nat.eq_of_beq_eq_true hq
      rcases hP with hP | hP
      · exact (hc.young hP ha he).elim
      · rw [he]; exact hP) (fun _ _ _ h => h)
    obtain ⟨r', cm', e1, s', m', e2, e3, e4, e5, e6⟩ := h G _ cm q4 hcc (hm.put q3 fun t ht => beq_ne (by omega))
    exact ⟨r', cm', e1, s', m', e2, e3, e4, q3'.trans e5, e6⟩
theorem xs'_recP {args : Array Operand} {ts : Array Nat} (hw : wantB ops env o = some true) (ho : o.op = .call ⟨.builtin .recover, args, ts⟩) (hd : o.dst = some d) (h : XRS T call bx ops bs l ⟨sl, (d, .v v) :: env, lo, ob, df⟩ .recd Q) : XRS T call bx ops bs ((o, []) :: l) ⟨sl, env, lo, ob, df⟩ (.pan v) Q := by
  intro G r cm hr hc hm
  cases hm with
  | @pan a _ hv =>
    simp only [runOps, wantB_sound hr hw, oop, ho, oCall, oBuiltin, oRecover, Eng.reck, if_true, hd]
    exact h G _ .recd (hr.put (.v hv) d) hc .recd
theorem xs'_recN {args : Array Operand} {ts : Array Nat} (hw : wantB ops env o = some true) (ho : o.op = .call ⟨.builtin .recover, args, ts⟩) (hd : o.dst = some d) (h : XRS T call bx ops bs l ⟨sl, (d, .v .nilif) :: env, lo, ob, df⟩ .ret Q) : XRS T call bx ops bs ((o, []) :: l) ⟨sl, env, lo, ob, df⟩ .ret Q := by
  intro G r cm hr hc hm
  cases hm
  simp only [runOps, wantB_sound hr hw, oop, ho, oCall, oBuiltin, oRecover, Eng.reck, if_true, hd]
  exact h G _ .ret (hr.put (.v (.sc rfl)) d) hc .ret
end
abbrev QBS := BX → SL → LO → LO → LO → BM → Prop
def XSB (T : Nat → Option TI) (call : CallF) (h : FH) (N : Nat) (bs : Base) (c : Code) (sl : SL) (lo ob df : LO) (m : BM) (Q : QBS) : Prop :=
  ∀ G st cm, RepBS G N ⟨sl, [], lo, ob, df⟩ st → Cg bs G st.hp → CMr G st.hp cm m → ∃ e st' cm', execSL T call h c st cm = some (e, st', cm') ∧ ∃ x sl' lo' ob' df' m', RepBS G N ⟨sl', [], lo', ob', df'⟩ st' ∧ Cg bs G st'.hp ∧ BXr G st'.hp e x ∧ CMr G st'.hp cm' m' ∧ Go1 PO G.om G.om st.hp st'.hp ∧ Q x sl' lo' ob' df' m'
def ThenS' (T : Nat → Option TI) (call : CallF) (h : FH) (N : Nat) (bs : Base) (b : Code) (Q : QBS) : QBS
  | .normal, sl, lo, ob, df, m => XSB T call h N bs b sl lo ob df m Q
  | x, sl, lo, ob, df, m => Q x sl lo ob df m
section
variable {T : Nat → Option TI} {call : CallF} {h : FH} {N : Nat} {bs : Base} {sl sl' : SL} {lo ob df : LO} {m : BM} {Q : QBS} {a b c : Code}
theorem z_seq (hx : XSB T call h N bs a sl lo ob df m (ThenS' T call h N bs b Q)) : XSB T call h N bs (.seq a b) sl lo ob df m Q := by
  intro G st cm hst hc hm
  obtain ⟨e, st1, c1, h1, x, sl', lo', ob', df', m', h2, h3, h4, h5, hg, h6⟩ := hx G st cm hst hc hm
  simp only [execSL, h1]
  cases h4 with
  | normal =>
    obtain ⟨e, st2, c2, k1, x, sl', lo', ob', df', m', k2, k3, k4, k5, kg, k6⟩ := h6 G st1 c1 h2 h3 h5
    exact ⟨e, st2, c2, k1, x, sl', lo', ob', df', m', k2, k3, k4, k5, hg.trans kg, k6⟩
  | exit => exact ⟨_, _, _, rfl, _, sl', lo', ob', df', m', h2, h3, .exit, h5, hg, h6⟩
  | ret => exact ⟨_, _, _, rfl, _, sl', lo', ob', df', m', h2, h3, .ret, h5, hg, h6⟩
  | panic hv => exact ⟨_, _, _, rfl, _, sl', lo', ob', df', m', h2, h3, .panic hv, h5, hg, h6⟩
theorem z_cond {x : Operand} {p : Bool} (hc : BS.slot ⟨sl, [], lo, ob, df⟩ x = some (.v (.bool p))) (ha : p = true → XSB T call h N bs a sl lo ob df m Q) (hb : p = false → XSB T call h N bs b sl lo ob df m Q) : XSB T call h N bs (.cond x a b) sl lo ob df m Q := by
  intro G st cm hst hcg hm
  simp only [execSL, hst.slot hc]
  cases p with
  | true => exact ha rfl G st cm hst hcg hm
  | false => exact hb rfl G st cm hst hcg hm
theorem z_skip (hq : Q .normal sl lo ob df m) : XSB T call h N bs .skip sl lo ob df m Q := fun G st cm hst hc hm => ⟨_, _, _, rfl, .normal, sl, lo, ob, df, m, hst, hc, .normal, hm, .refl _ _ _, hq⟩
theorem z_ret (hq : Q .ret sl lo ob df m) : XSB T call h N bs .ret sl lo ob df m Q := fun G st cm hst hc hm => ⟨_, _, _, rfl, .ret, sl, lo, ob, df, m, hst, hc, .ret, hm, .refl _ _ _, hq⟩
theorem z_nf (hx : XSB T call h N bs c sl' lo ob df m Q) (hn : NFB sl sl' := by repeat (first | exact NFB.nil rfl | apply NFB.v rfl | apply NFB.lr rfl | apply NFB.no rfl)) : XSB T call h N bs c sl lo ob df m Q := by rw [hn.eq]; exact hx
theorem z_region {id : Nat} {ops : Array Oper} (hN : (h.rh id).out.all (fun t => Nat.blt t N) = true)
    (hx : XRS T call h.bx ops.toList bs (ops.toList.map fun o => (o, [])) ⟨sl, [], lo, ob, df⟩ m (fun sl env lo ob df m => Q .normal (outsB env (h.rh id).out sl) lo ob df m)) : XSB T call h N bs (.region id ops false) sl lo ob df m Q := by
  intro G st cm hst hc hm
  have hr : RepB G ⟨sl, [], lo, ob, df⟩ ⟨st.sl, [], st.lo, st.hp, st.df⟩ := ⟨.nil, hst.sl, hst.lo, hst.ob, hst.df⟩
  obtain ⟨r', cm', h1, s', m', hr', hc', hm', hg, hq⟩ := hx G _ cm hr hc hm
  have e : r'.sl = st.sl := runOps_sl h1 rfl
  have hb : ∀ t ∈ (h.rh id).out, t < st.sl.length := by
    intro t ht
    rw [List.all_eq_true] at hN
    exact Nat.lt_of_lt_of_le (Nat.le_of_ble_eq_true (hN t ht)) hst.len
  refine ⟨.normal, ⟨setOut r'.env (h.rh id).out st.sl, r'.lo, r'.hp, r'.df⟩, cm', by simp only [execSL, runRegion, Bool.false_eq_true, if_false, h1],   .normal, _, _, _, _, m', ?_, hc', .normal, hm', hg, hq⟩
  exact ⟨by simp only [setOut_len]; exact hst.len, outsB_spec hr'.env _ _ _ hb (by rw [← e]; exact hr'.sl), hr'.lo, hr'.ob, hr'.df⟩
end
/-! #### The way out -/
def BM.fin : BM → BM
  | .recd => .ret
  | c => c
theorem CMr.fin {G : Gh} {h : Hp} {cm : CM} {m : BM} (q : CMr G h cm m) : CMr G h cm.fin m.fin := by
  cases q with
  | ret => exact .ret
  | pan hv => exact .pan hv
  | recd => exact .ret
def LvB (T : Nat → Option TI) (F : Nat → Option Func) (H : Nat → FH) (N : Nat) (fn : Func) (bs : Base) (Φ : RB → LO → Prop) (sl : SL) (lo : LO) : LO → BM → LO → Prop
  | [], m, ob => match m with
    | .pan v => ∃ (obr : LO) (M : Nat), Has obr ob ∧ Φ (.pan (finV M v)) (finOs obr)
    | _ => ∃ (l l' : List BV) (obr : LO) (M : Nat), resB T ⟨sl, [], lo, ob, []⟩ fn.results.toList = some l ∧ WkL l l' ∧ Has obr ob ∧ Φ (.ret (finV M (oneB l'))) (finOs obr)
  | (f, args) :: ds, m, ob => ∃ gn c, F f = some gn ∧ Nat.beq args.length (arity gn) = true ∧ gn.body = some c ∧ Nat.ble args.length gn.ntmps = true ∧
      XSB T (evalL T F H) (H f) gn.ntmps bs c (initB 0 args) [] ob [] m (fun x sl2 lo2 ob2 df2 m2 => endBX x = true ∧ df2 = [] ∧ (∃ l, resB T ⟨sl2, [], lo2, ob2, []⟩ gn.results.toList = some l) ∧ LvB T F H N fn bs Φ sl lo ds m2.fin ob2)
section
variable {T : Nat → Option TI} {F : Nat → Option Func} {H : Nat → FH} {N : Nat} {fn : Func} {bs : Base} {Φ : RB → LO → Prop} {sl : SL} {lo ob df : LO} {G : Gh}
theorem resV_df {sl : List Slot} {lo : List (Nat × List AV)} {hp : Hp} {d1 d2 : List (Nat × List AV)} : ∀ rs : List ResultVar, resV T ⟨sl, lo, hp, d1⟩ rs = resV T ⟨sl, lo, hp, d2⟩ rs
  | [] => rfl
  | .tmp t :: rs => by simp only [resV, resV_df (d1 := d1) (d2 := d2) rs]
  | .cell a t :: rs => by
    simp only [resV, resV_df (d1 := d1) (d2 := d2) rs]
    split
    · rename_i ti x _ _
      have : RS.rd ⟨sl, [], lo, hp, d1⟩ x ti.size = RS.rd ⟨sl, [], lo, hp, d2⟩ x ti.size := by cases x <;> rfl
      rw [this]
    · rfl
theorem RepBS.hp {st : St} {h0 h' : Hp} {ob' : LO} (hst : RepBS G N ⟨sl, [], lo, ob, []⟩ ⟨st.sl, st.lo, h0, []⟩) (g : Go1 PO G.om G.om h0 h') (ho : ∀ t c, lkp ob' t = some c → ObR G h' t c) : RepBS G N ⟨sl, [], lo, ob', []⟩ ⟨st.sl, st.lo, h', []⟩ := by
  have hP : ∀ t, t < 1000 → PO t = false := fun t ht => by
    cases hb : PO t with
    | false => rfl
    | true => unfold PO at hb; rw [Nat.ble_eq] at hb; omega
  refine ⟨hst.len, fun t y hy => ?_, fun u c hc => ?_, ho, .nil⟩
  · obtain ⟨x, x1, x2⟩ := hst.sl t y hy
    refine ⟨x, x1, ?_⟩
    cases x2 with
    | v hv => exact .v (hv.keep0 g hP fun _ _ h => h)
    | lr => exact .lr
    | nv => exact .nv
    | nn => exact .nn
  · obtain ⟨x, x1, x2⟩ := hst.lo u c hc
    exact ⟨x, x1, x2.imp fun _ _ _ v => v.keep0 g hP fun _ _ h => h⟩
theorem lv_leaveB {st : St} : ∀ (ds : LO) (dA : List (Nat × List AV)) (m : BM) (cm : CM) (ob : LO) (hp : Hp), L2 (fun x y => x.1 = y.1 ∧ VBs G hp x.2 y.2) dA ds → RepBS G N ⟨sl, [], lo, ob, []⟩ ⟨st.sl, st.lo, hp, []⟩ → Cg bs G hp → CMr G hp cm m → LvB T F H N fn bs Φ sl lo ds m ob →
    ∃ rA hp', leave T (callDL T F H (evalL T F H)) fn st dA cm hp = some (rA, hp') ∧ ∃ G' r ob', Cg bs G' hp' ∧ RBr G' hp' rA r ∧ (∀ p ∈ ob', ObR G' hp' p.1 p.2) ∧ Φ r ob'
  | [], dA, m, cm, ob, hp, hd, hst, hc, hm, hl => by
    rw [hd.nil_r]
    have fin : ∀ (rA : Res) (rb : RB) (obr : LO), RBr G.rt hp rA rb → Has obr ob → Φ rb (finOs obr) → ∃ G' r ob', Cg bs G' hp ∧ RBr G' hp rA r ∧ (∀ p ∈ ob', ObR G' hp p.1 p.2) ∧ Φ r ob' := fun rA rb obr h1 h2 h3 =>
      ⟨G.rt, rb, finOs obr, hc.rt, h1, fun p hp => by
        obtain ⟨c, q1, q2⟩ := finOs_mem hp
        rw [q2]
        exact (hst.ob _ _ (h2 _ q1)).finO, h3⟩
    have ret : (∃ (l l' : List BV) (obr : LO) (M : Nat), resB T ⟨sl, [], lo, ob, []⟩ fn.results.toList = some l ∧ WkL l l' ∧ Has obr ob ∧ Φ (.ret (finV M (oneB l'))) (finOs obr)) → ∃ rA hp', (match resV T { st with hp := hp } fn.results.toList with
      | some [v] => some (Res.ret v, hp)
      | some l => some (.ret (.tup l), hp)
      | none => none) = some (rA, hp') ∧ ∃ G' r ob', Cg bs G' hp' ∧ RBr G' hp' rA r ∧ (∀ p ∈ ob', ObR G' hp' p.1 p.2) ∧ Φ r ob' := by
      rintro ⟨l, l', obr, M, h1, hw, h2, h3⟩
      obtain ⟨v, m1, m2⟩ := resB_sound hst h1
      have e : resV T { st with hp := hp } fn.results.toList = some v := by rw [← m1]; exact resV_df _
      have hv : VB G hp (oneR v) (oneB l') := VBs.one (VBs.wkL m2 hw)
      refine ⟨.ret (oneR v), hp, ?_, fin (.ret (oneR v)) (.ret (finV M (oneB l'))) obr (hv.fin M) h2 h3⟩
      rw [e]
      cases v with
      | nil => rfl
      | cons x l => cases l <;> rfl
    cases hm with
    | ret => exact ret hl
    | recd => exact ret hl
    | @pan a b hv =>
      obtain ⟨obr, M, h2, h3⟩ := hl
      exact ⟨.panic a, hp, rfl, fin (.panic a) (.pan (finV M b)) obr (hv.fin M) h2 h3⟩
  | (f, args) :: ds, dA, m, cm, ob, hp, hd, hst, hc, hm, hl => by
    obtain ⟨⟨f', as⟩, dA, rfl, ⟨h1, h2⟩, h3⟩ := hd.cons_r
    simp only at h1 h2
    subst h1
    obtain ⟨gn, c, k1, k2, k3, k4, hx⟩ := hl
    have hst0 : RepBS G gn.ntmps ⟨initB 0 args, [], [], ob, []⟩ (st0 gn as hp) := by
      refine ⟨?_, fun t y hy => ?_, fun u c hc => by simp [lkp] at hc, hst.ob, .nil⟩
      · simp only [st0, List.length_append, List.length_map, List.length_replicate]
        omega
      · obtain ⟨i, a, rfl, q2, rfl⟩ := initB_lk args 0 t y hy
        obtain ⟨x, x1, x2⟩ := h2.get q2
        refine ⟨.v x, ?_, .v x2⟩
        simp only [st0, Nat.zero_add]
        rw [List.getElem?_append_left (by simp; exact (List.getElem?_eq_some_iff.1 x1).1)]
        simp [x1]
    obtain ⟨e, st', cm', q1, x, sl', lo', ob', df', m', q2, q3, q4, q5, qg, he, rfl, ⟨l, hl2⟩, hlv⟩ := hx G (st0 gn as hp) cm hst0 hc hm
    have e2 : st'.df = [] := q2.df.nil_r
    obtain ⟨mv, m1, m2⟩ := resB_sound q2 hl2
    have hcd : callDL T F H (evalL T F H) f' as cm hp = some (cm', st'.hp) := by
      have hal : Nat.beq as.length (arity gn) = true := by rw [h2.1]; exact k2
      cases q4 with
      | normal => simp only [callDL, k1, hal, Bool.not_true, cond_false, k3, q1, e2, List.isEmpty_nil, if_true, m1]
      | ret => simp only [callDL, k1, hal, Bool.not_true, cond_false, k3, q1, e2, List.isEmpty_nil, if_true, m1]
      | exit => cases he
      | panic => cases he
    have hP : ∀ t, t < 1000 → PO t = false := fun t ht => by
      cases hb : PO t with
      | false => rfl
      | true => unfold PO at hb; rw [Nat.ble_eq] at hb; omega
    have hg' : Go1 PO G.om G.om hp st'.hp := qg
    have hst' : RepBS G N ⟨sl, [], lo, ob', []⟩ ⟨st.sl, st.lo, st'.hp, []⟩ := RepBS.hp hst hg' q2.ob
    obtain ⟨rA, hp', r1, r2⟩ := lv_leaveB ds dA m'.fin _ ob' st'.hp (h3.imp fun x y _ hh => ⟨hh.1, hh.2.imp fun _ _ _ v => v.keep0 hg' hP fun _ _ h => h⟩) hst' q3 q5.fin hlv
    exact ⟨rA, hp', by simp only [leave, hcd]; exact r1, r2⟩
def bmOf : BX → Option BM
  | .normal | .ret => some .ret
  | .panic v => some (.pan v)
  | .exit _ => none
theorem ends_lvB {x : BX} {m : BM} (he : bmOf x = some m) (hl : LvB T F H N fn bs Φ sl lo df m ob) : EndsB T F H N fn bs Φ x sl lo ob df := by
  intro G st e hst hc hx
  have hst' : RepBS G N ⟨sl, [], lo, ob, []⟩ ⟨st.sl, st.lo, st.hp, []⟩ := ⟨hst.len, hst.sl, hst.lo, hst.ob, .nil⟩
  cases hx with
  | normal => simp only [bmOf, Option.some.injEq] at he; subst he; exact ⟨.ret, rfl, lv_leaveB df st.df .ret .ret ob st.hp hst.df hst' hc .ret hl⟩
  | ret => simp only [bmOf, Option.some.injEq] at he; subst he; exact ⟨.ret, rfl, lv_leaveB df st.df .ret .ret ob st.hp hst.df hst' hc .ret hl⟩
  | exit => cases he
  | @panic a b hv => simp only [bmOf, Option.some.injEq] at he; subst he; exact ⟨.pan a, rfl, lv_leaveB df st.df (.pan b) (.pan a) ob st.hp hst.df hst' hc (.pan hv) hl⟩
end
section
variable {T : Nat → Option TI} {F : Nat → Option Func} {H : Nat → FH} {N : Nat} {fn : Func} {bs : Base} {Φ : RB → LO → Prop} {sl : SL} {lo ob df : LO} {m : BM}
theorem lv_cons {f : Nat} {args : List BV} {gn : Func} {c : Code} (h1 : F f = some gn) (h2 : Nat.beq args.length (arity gn) = true) (h3 : gn.body = some c) (h4 : Nat.ble args.length gn.ntmps = true)
    (hx : XSB T (evalL T F H) (H f) gn.ntmps bs c (initB 0 args) [] ob [] m (fun x sl2 lo2 ob2 df2 m2 => endBX x = true ∧ df2 = [] ∧ (∃ l, resB T ⟨sl2, [], lo2, ob2, []⟩ gn.results.toList = some l) ∧ LvB T F H N fn bs Φ sl lo df m2.fin ob2)) : LvB T F H N fn bs Φ sl lo ((f, args) :: df) m ob := ⟨gn, c, h1, h2, h3, h4, hx⟩
theorem lv_ret {l : List BV} {obr : LO} (M : Nat) (h1 : resB T ⟨sl, [], lo, ob, []⟩ fn.results.toList = some l) (h2 : Has obr ob) (h3 : Φ (.ret (finV M (oneB l))) (finOs obr)) : LvB T F H N fn bs Φ sl lo [] .ret ob := ⟨l, l, obr, M, h1, WkL.refl, h2, h3⟩
theorem lv_retW {l l' : List BV} {obr : LO} (M : Nat) (h1 : resB T ⟨sl, [], lo, ob, []⟩ fn.results.toList = some l) (hw : WkL l l') (h2 : Has obr ob) (h3 : Φ (.ret (finV M (oneB l'))) (finOs obr)) : LvB T F H N fn bs Φ sl lo [] .ret ob := ⟨l, l', obr, M, h1, hw, h2, h3⟩
theorem lv_pan {v : BV} {obr : LO} (M : Nat) (h2 : Has obr ob) (h3 : Φ (.pan (finV M v)) (finOs obr)) : LvB T F H N fn bs Φ sl lo [] (.pan v) ob := ⟨obr, M, h2, h3⟩
end
/-- Answers of functions that may panic with a number. -/
inductive Pr (α : Type) where
  | ret (a : α)
  | pan (e : Int)
def prE {α β : Type} (r : Pr α) (k : α → β) (p : Int → β) : β := match r with | .ret a => k a | .pan e => p e
theorem prR {α β : Type} {a : α} {k : α → β} {p : Int → β} {y : β} (h : prE (.ret a) k p = y) : k a = y := h
theorem prP {α β : Type} {e : Int} {k : α → β} {p : Int → β} {y : β} (h : prE (.pan e) k p = y) : p e = y := h
theorem SubW.refl {l : SL} : SubW l l := fun t y h => ⟨y, h, .refl⟩
theorem SubC'.refl {l : LO} : SubC' l l := fun t y h => ⟨y, h, .refl⟩
end Go.Eng

/- ENGINE 52: contracts of the first kind, used for calls over values of the second kind. -/
set_option linter.unusedVariables false
set_option linter.unusedSimpArgs false
namespace Go.Eng
open Go

/-- A call that changes nothing and whose answer says nothing of memory. -/
theorem callB_ext {call : CallF} {f : Nat} {args : List BV} {Φ : RB → LO → Prop} {rb : RB} (hΦ : Φ rb []) (H : ∀ G hp as, VBs G hp as args → ∃ r hp', call f as hp = some (r, hp') ∧ Grow hp hp' ∧ ∀ G' : Gh, RBr G' hp' r rb) : CallB call noP f args [] Φ := by
  intro G hp as hv _ _
  obtain ⟨r, hp', h1, h2, h3⟩ := H G hp as hv
  refine ⟨r, hp', h1, ⟨fun a => if a < hp.n then G.om a else 1, G.pi⟩, rb, [], ⟨h2.n, fun a ha _ => h2.get a ha, fun a ha => if_pos ha⟩, fun _ _ _ h => h, h3 _, fun p hp => by simp at hp, hΦ⟩
theorem vn_int {om : Nat → Nat} {h : Hp} {E : Nat} {a : AV} {k : IntKind} {n : Int} (v : VN om h E a (.int k n)) : a = .int k n := by
  cases v with
  | sc hs => have := toA_iff.2 hs; simpa [toA] using this.symm
theorem vb_int {G : Gh} {h : Hp} {a : AV} {k : IntKind} {n : Int} (v : VB G h a (.int k n)) : a = .int k n := by
  cases v with
  | sc hs => have := toA_iff.2 hs; simpa [toA] using this.symm
theorem vb_str {G : Gh} {h : Hp} {a : AV} {s : List UInt8} (v : VB G h a (.str s)) : a = .str s := by
  cases v with
  | sc hs => have := toA_iff.2 hs; simpa [toA] using this.symm
theorem vb_agg {G : Gh} {h : Hp} {a : AV} {cs : List BV} (v : VB G h a (.agg cs)) : ∃ as, a = .agg as ∧ VBs G h as cs := by
  cases v with
  | sc hs => cases a <;> simp [scB] at hs
  | agg hn hr => exact ⟨_, rfl, hn, hr⟩
theorem flat_ci (ns : List Int) : (ns.map ci).flatten = ns.map fun n => BV.int .i64 n := by
  induction ns with
  | nil => rfl
  | cons n ns ih => rw [List.map_cons, List.flatten_cons, ih]; rfl
theorem flat_ai (ns : List Int) : (ns.map fun n => [AV.int .i64 n]).flatten = ns.map fun n => AV.int .i64 n := by
  induction ns with
  | nil => rfl
  | cons n ns ih => rw [List.map_cons, List.flatten_cons, ih]; rfl
theorem vns_ci {om : Nat → Nat} {h : Hp} {E : Nat} {cs : List AV} {ns : List Int} (v : VNs om h E cs (ns.map ci).flatten) : cs = (ns.map fun n => [AV.int .i64 n]).flatten := by
  rw [flat_ci] at v
  rw [flat_ai]
  induction ns generalizing cs with
  | nil => exact v.nil_r
  | cons n ns ih =>
    obtain ⟨a, l, rfl, h1, h2⟩ := v.cons_r
    rw [ih h2, vn_int h1]
    rfl
theorem rows1 : ∀ {rs : List (List AV)}, (∀ r ∈ rs, r.length = 1) → rs = rs.flatten.map fun a => [a]
  | [], _ => rfl
  | [a] :: rs, h => by
    rw [List.flatten_cons, List.map_append, ← rows1 fun r hr => h r (List.mem_cons_of_mem _ hr)]
    rfl
  | [] :: rs, h => by have := h [] (List.mem_cons_self ..); simp at this
  | (_ :: _ :: _) :: rs, h => by have := h _ (List.mem_cons_self ..); simp at this
theorem sl_of {G : Gh} {h : Hp} {a : AV} {ns : List Int} {own m : Nat} (v : VB G h a (.ls (ns.map ci) 1 own m)) : Sl h 1 a (ns.map fun n => [AV.int .i64 n]) := by
  generalize he : ns.map ci = es at v
  cases v with
  | sc hs => cases a <;> simp [scB] at hs
  | lsN => rw [List.map_eq_nil_iff.1 he]; exact .nil
  | lsA ha hk hq hm ho hl hs hp hr =>
    subst he
    rw [List.length_map] at hl
    subst hl
    have e := vns_ci hr
    subst e
    have e2 : ns.length = (ns.map fun n => [AV.int .i64 n]).length := by simp
    rw [e2] at hp ⊢
    exact .own ha hk hp (by simp)
  | lsO hm hl hs1 hs hr =>
    subst he
    have e := vns_ci hr
    rw [rows1 hs1, e, flat_ai, List.map_map]
    exact .old (by simp)
end Go.Eng

/- ENGINE 53: loops over a list, told as a fold. -/
set_option linter.unusedVariables false
set_option linter.unusedSimpArgs false
namespace Go.Eng
open Go

/-- A fold that may end early. -/
def foldE {α A ρ : Type} (g : A → α → A ⊕ ρ) (fin : A → ρ) : List α → A → ρ
  | [], a => fin a
  | x :: l, a => match g a x with
    | .inl a' => foldE g fin l a'
    | .inr r => r
def nxE {A σ ρ : Type} (st : Nat → A → σ) (i : Nat) : A ⊕ ρ → σ ⊕ ρ
  | .inl a => .inl (st (i + 1) a)
  | .inr r => .inr r
theorem itN_list {α A σ ρ : Type} {f : σ → Option (σ ⊕ ρ)} (st : Nat → A → σ) (g : A → α → A ⊕ ρ) (fin : A → ρ) (P : Nat → A → Prop) (l : List α)
    (h1 : ∀ i a x, l[i]? = some x → P i a → f (st i a) = some (nxE st i (g a x)) ∧ ∀ a', g a x = .inl a' → P (i + 1) a')
    (h2 : ∀ a, P l.length a → f (st l.length a) = some (.inr (fin a))) (a0 : A) (hP : P 0 a0) : itN f (l.length + 1) (st 0 a0) = some (foldE g fin l a0) := by
  have key : ∀ (r : List α) (i : Nat) (a : A), l.drop i = r → i + r.length = l.length → P i a → itN f (r.length + 1) (st i a) = some (foldE g fin r a) := by
    intro r
    induction r with
    | nil =>
      intro i a hd hi hp
      simp only [List.length_nil, Nat.add_zero] at hi
      subst hi
      simp only [List.length_nil, itN, h2 a hp, foldE]
    | cons x r ih =>
      intro i a hd hi hp
      have hx : l[i]? = some x := by
        have := congrArg (fun l => l[0]?) hd
        simpa using this
      obtain ⟨e1, e2⟩ := h1 i a x hx hp
      simp only [List.length_cons, itN, e1, foldE]
      cases hg : g a x with
      | inl a' =>
        simp only [nxE]
        refine ih (i + 1) a' ?_ (by simp only [List.length_cons] at hi; omega) (e2 a' hg)
        have := congrArg (List.drop 1) hd
        simpa [List.drop_drop, Nat.add_comm] using this
      | inr b => rfl
  exact key l 0 a0 rfl (by simp) hP
theorem itN_more {σ ρ : Type} {f : σ → Option (σ ⊕ ρ)} : ∀ {n : Nat} {s : σ} {r : ρ} (k : Nat), itN f n s = some r → itN f (n + k) s = some r
  | 0, _, _, _, h => by simp [itN] at h
  | n + 1, s, r, k, h => by
    rw [Nat.add_right_comm]
    simp only [itN] at h ⊢
    split at h
    · rename_i s' hs; exact itN_more k h
    · rename_i b hs; exact h
    · cases h
/-- What comes behind a loop. -/
def outE {τ β : Type} (K : τ → Option β) : τ ⊕ β → Option β
  | .inl v => K v
  | .inr z => some z
theorem lp_of {σ τ β : Type} {f : σ → Option (σ ⊕ (τ ⊕ β))} {s : σ} {K : τ → Option β} {n : Nat} {r : τ ⊕ β} (h : itN f n s = some r) (hn : n ≤ fuel) : lp f s K = outE K r := by
  obtain ⟨k, hk⟩ := Nat.exists_eq_add_of_le hn
  unfold lp
  rw [hk, itN_more k h]
  cases r <;> rfl
theorem lp_list {α A σ τ β : Type} {f : σ → Option (σ ⊕ (τ ⊕ β))} {s : σ} {K : τ → Option β} (st : Nat → A → σ) (g : A → α → A ⊕ (τ ⊕ β)) (fin : A → τ ⊕ β) (P : Nat → A → Prop) (l : List α) (a0 : A) (hs : s = st 0 a0) (hl : l.length < fuel)
    (h1 : ∀ i a x, l[i]? = some x → P i a → f (st i a) = some (nxE st i (g a x)) ∧ ∀ a', g a x = .inl a' → P (i + 1) a')
    (h2 : ∀ a, P l.length a → f (st l.length a) = some (.inr (fin a))) (hP : P 0 a0) : lp f s K = outE K (foldE g fin l a0) := by
  subst hs
  exact lp_of (itN_list st g fin P l h1 h2 a0 hP) hl
theorem idx_of {α : Type} {l : List α} {i : Nat} {x : α} (h : l[i]? = some x) : idx l (i : Int) = some x := by
  unfold idx
  rw [if_pos (by omega)]
  simpa using h
theorem app_of {α : Type} {l m : List α} (h : l.length + m.length ≤ 68719476736) : app l m = some (l ++ m) := if_pos h
theorem lt_of_get {α : Type} {l : List α} {i : Nat} {x : α} (h : l[i]? = some x) : i < l.length := (List.getElem?_eq_some_iff.1 h).1
end Go.Eng

/- ENGINE 54: what a law is asked about: from readings of the arguments to values of the second kind. -/
set_option linter.unusedVariables false
set_option linter.unusedSimpArgs false
namespace Go.Eng
open Go

/-- What single cells of plain data may be. -/
inductive Lf where
  | bool
  | int (k : IntKind)
  | str
  | sl (fs : List Lf)
section
variable (P : Program)
def lfsF (r : TypeId → Option (List Lf)) : Nat → List Field → Option (List Lf)
  | _, [] => some []
  | off, f :: fs => match r f.type with
    | some l => if f.offset = off ∧ P.cellsOf f.type = l.length then (match lfsF r (off + l.length) fs with | some m => some (l ++ m) | none => none) else none
    | none => none
/-- The cells of a type of plain data. -/
def lfs : Nat → TypeId → Option (List Lf)
  | 0, _ => none
  | n + 1, t => match P.underlying t with
    | some .bool => some [.bool]
    | some (.int k) => some [.int k]
    | some .string => some [.str]
    | some (.slice e) => (match lfs n e with
      | some fs => if 0 < fs.length ∧ P.cellsOf e = fs.length ∧ 0 < P.bytesOf e then some [.sl fs] else none
      | none => none)
    | some (.struct fields) => (match lfsF P (lfs n) 0 fields.toList with
      | some l => if l.length = P.cellsOf t then some l else none
      | none => none)
    | _ => none
end
inductive Sh : Lf → AV → Prop
  | bool (b) : Sh .bool (.bool b)
  | int (k n) (h : (Lit.int k n).wf = true) : Sh (.int k) (.int k n)
  | str (l) (h : l.length ≤ reachBytes) : Sh .str (.str l)
  | nil (fs) : Sh (.sl fs) .nils
  | rl (fs es) (hl : es.length ≤ reachBytes) (h1 : ∀ e ∈ es, e.length = fs.length) (h2 : ∀ e ∈ es, ∀ (i : Nat) f a, fs[i]? = some f → e[i]? = some a → Sh f a) : Sh (.sl fs) (.rl es fs.length false)
theorem Sh.one {f : Lf} {a : AV} (h : Sh f a) : a.one = true := by cases h <;> rfl
theorem add_add {a : Addr} (h : a.spot = none) (m n : Nat) : (a.add m).add n = ⟨a.block, a.off + m + n, none⟩ := by
  obtain ⟨b, o, s⟩ := a
  simp only at h
  subst h
  unfold Addr.add
  split <;> split <;> simp_all
theorem mem_weightsAll {H : Type} {P : Program} {e : TypeId} : ∀ {l : List (DataW H)} {d : DataW H} {n : Nat}, d ∈ l → n ∈ d.weights P e → n ∈ DataW.weightsAll P e l
  | d0 :: l, d, n, hd, hn => by
    simp only [DataW.weightsAll, List.mem_append]
    rcases List.mem_cons.1 hd with rfl | hd
    · exact .inl hn
    · exact .inr (mem_weightsAll hd hn)
section
variable {H : Type} {enc : TypeId × Value → H} {P : Program} {w : World} {sp : Nat → Bool} {held : Bool} {M : Nat → Option MB}
theorem open_fields {B : Nat} {r : TypeId → Option (List Lf)} {cs : List Value} : ∀ (fl : List Field) (off : Nat) (L : List Lf), lfsF P r off fl = some L →
    (∀ f ∈ fl, ∀ l, r f.type = some l → ((cs.drop f.offset).take (P.cellsOf f.type)).length = l.length → ∃ as, VRs w B M as ((cs.drop f.offset).take (P.cellsOf f.type)) ∧ L2 Sh l as) → off + L.length ≤ cs.length →
    ∃ as, VRs w B M as ((cs.drop off).take L.length) ∧ L2 Sh L as
  | [], off, L, hL, _, _ => by
    simp only [lfsF, Option.some.injEq] at hL
    subst hL
    exact ⟨[], by simpa using VRs.nil, .nil⟩
  | f :: fl, off, L, hL, hf, hlen => by
    simp only [lfsF] at hL
    split at hL
    · rename_i l hl
      split at hL
      · rename_i hc
        split at hL
        · rename_i m hm
          simp only [Option.some.injEq] at hL
          subst hL
          rw [List.length_append] at hlen
          obtain ⟨as, a1, a2⟩ := hf f (List.mem_cons_self ..) l hl (by rw [hc.1, hc.2, List.length_take, List.length_drop]; omega)
          obtain ⟨bs, b1, b2⟩ := open_fields fl (off + l.length) m hm (fun g hg => hf g (List.mem_cons_of_mem _ hg)) (by omega)
          rw [hc.1, hc.2] at a1
          refine ⟨as ++ bs, ?_, L2.append a2 b2⟩
          have := a1.append b1
          rw [← List.drop_drop] at this
          have e : (cs.drop off).take (l ++ m).length = (cs.drop off).take l.length ++ ((cs.drop off).drop l.length).take m.length := by
            rw [List.length_append, List.take_add]
          rw [e]
          exact this
        · cases hL
      · cases hL
    · cases hL
theorem open_lfs : ∀ (n : Nat) (t : TypeId) (L : List Lf), lfs P n t = some L → ∀ (fuel : Nat) (cs : List Value) (x : DataW H × List MemPlace), DataW.trod enc P w 0 sp held fuel t cs = some x → (∀ m ∈ x.1.weights P t, m ≤ reachBytes) →
    cs.length = L.length ∧ ∃ as, VRs w w.heap.size M as cs ∧ L2 Sh L as
  | 0, t, L, hL => by simp [lfs] at hL
  | n + 1, t, L, hL => by
    intro fuel cs x hx hw
    simp only [lfs] at hL
    split at hL
    · rename_i hu
      simp only [Option.some.injEq] at hL
      subst hL
      obtain ⟨b, rfl, rfl⟩ := DataW.trod_bool hu hx
      exact ⟨rfl, [.bool b], .cons (.bool b) .nil, .cons (.bool b) .nil⟩
    · rename_i k hu
      simp only [Option.some.injEq] at hL
      subst hL
      obtain ⟨b, rfl, rfl, hwf⟩ := DataW.trod_int hu hx
      exact ⟨rfl, [.int k b], .cons (.int k b) .nil, .cons (.int k b hwf) .nil⟩
    · rename_i hu
      simp only [Option.some.injEq] at hL
      subst hL
      obtain ⟨s, rfl, rfl, _⟩ := DataW.trod_string hu hx
      exact ⟨rfl, [.str s.data.toList], .cons (.str _ _ rfl) .nil, .cons (.str _ (hw _ (by simp [DataW.weights]))) .nil⟩
    · rename_i e hu
      split at hL
      · rename_i fs hfs
        split at hL
        · rename_i hc
          simp only [Option.some.injEq] at hL
          subst hL
          rcases DataW.trod_slice hu hx with ⟨rfl, rfl⟩ | ⟨a, len, cap, elems, rest, n', _, rfl, rfl, _, hlc, _, hel, hget, _, _⟩
          · exact ⟨rfl, [.nils], .cons .nils .nil, .cons (.nil fs) .nil⟩
          · refine ⟨rfl, ?_⟩
            have hsz : (elems.map (·.1)).length * 1 ≤ reachBytes := by
              have h1 := hw (((elems.map (·.1)).length + (rest.map (·.1)).length) * P.bytesOf e) (by simp [DataW.weights, hu])
              refine Nat.le_trans (Nat.mul_le_mul (Nat.le_add_right _ _) ?_) h1
              exact hc.2.2
            have hrow : ∀ i, ∃ p : List Value × List AV, i < len → w.cells? 0 (a.add (i * P.cellsOf e)) (P.cellsOf e) = some p.1 ∧ VRs w w.heap.size M p.2 p.1 ∧ L2 Sh fs p.2 := by
              intro i
              by_cases hi : i < len
              · have hg := hget i hi
                have hi' : i < elems.length := by omega
                rw [List.getElem?_eq_getElem hi'] at hg
                obtain ⟨row, h1, h2⟩ := Option.bind_eq_some_iff.1 hg
                obtain ⟨_, as, h3, h4⟩ := open_lfs n e fs hfs n' row _ h2 (fun m hm => hw m (by
                  simp only [DataW.weights, hu, List.mem_cons, List.mem_append]
                  exact .inr (.inl (mem_weightsAll (List.mem_map.2 ⟨_, List.getElem_mem hi', rfl⟩) hm))))
                exact ⟨(row, as), fun _ => ⟨h1, h3, h4⟩⟩
              · exact ⟨([], []), fun h => absurd h hi⟩
            obtain ⟨g, hg⟩ := Classical.axiomOfChoice hrow
            have hes : ∀ (i : Nat) (r : List AV), ((List.range len).map fun i => (g i).2)[i]? = some r → i < len ∧ r = (g i).2 := by
              intro i r hr
              rw [List.getElem?_map, Option.map_eq_some_iff] at hr
              obtain ⟨j, h1, h2⟩ := hr
              have hi := (List.getElem?_eq_some_iff.1 h1).1
              rw [List.length_range] at hi
              rw [List.getElem?_range hi] at h1
              cases h1
              exact ⟨hi, h2.symm⟩
            have hmem : ∀ r ∈ (List.range len).map fun i => (g i).2, ∃ i, i < len ∧ r = (g i).2 := by
              intro r hr
              obtain ⟨i, hi, rfl⟩ := List.mem_map.1 hr
              exact ⟨i, List.mem_range.1 hi, rfl⟩
            have hlen : ((List.range len).map fun i => (g i).2).length = len := by simp
            have hspot : 0 < len → a.spot = none ∧ a.block < w.heap.size := by
              intro h0
              obtain ⟨c1, _, _⟩ := hg 0 h0
              have hb := World.cells?_block c1 (by rw [hc.2.1]; exact hc.1)
              refine ⟨?_, by simpa [Addr.add] using hb⟩
              obtain ⟨_, q1, q2⟩ := World.cells?_some c1
              have q3 := q2 0 (by rw [hc.2.1]; exact hc.1)
              have hpos : 0 < (g 0).1.length := by rw [q1, hc.2.1]; exact hc.1
              rw [List.getElem?_eq_getElem hpos] at q3
              unfold World.cell? at q3
              split at q3
              · split at q3
                · cases q3
                · rename_i hns
                  cases hsp : a.spot with
                  | none => rfl
                  | some s => simp [Addr.add, hsp] at hns
              · cases q3
            refine ⟨[.rl ((List.range len).map fun i => (g i).2) fs.length false], .cons ?_ .nil, .cons (.rl fs _ (by rw [hlen]; simpa [hel] using hsz) (fun r hr => ?_) (fun r hr i f b hf hb => ?_)) .nil⟩
            · have hv := VR.rl (W0 := w) (B := w.heap.size) (M := M) ((List.range len).map fun i => (g i).2) fs.length false a cap (fun i j => ((g i).1[j]?).getD undef) (by rw [hlen]; exact hlc) (fun h => by cases h) ?_ ?_ ?_ ?_ ?_
              · rw [hlen] at hv
                exact hv
              · intro hne
                have h0 : 0 < len := by
                  rcases Nat.eq_zero_or_pos len with h | h
                  · subst h; exact absurd rfl hne
                  · exact h
                exact hspot h0
              · intro i r hr
                obtain ⟨hi, rfl⟩ := hes i r hr
                exact (hg i hi).2.2.1.symm
              · intro i r j y hr hy
                obtain ⟨hi, rfl⟩ := hes i r hr
                obtain ⟨c1, c2, c3⟩ := hg i hi
                obtain ⟨_, q1, q2⟩ := World.cells?_some c1
                have hj : j < P.cellsOf e := by
                  have := (List.getElem?_eq_some_iff.1 hy).1
                  rw [c2.1, q1] at this
                  exact this
                have hj' : j < (g i).1.length := by rw [q1]; exact hj
                have q3 := q2 j hj
                rw [List.getElem?_eq_getElem hj'] at q3 ⊢
                simp only [Option.getD_some]
                rw [← q3, hc.2.1, add_add (hspot (by omega)).1]
              · intro i r j y hr hy
                obtain ⟨hi, rfl⟩ := hes i r hr
                obtain ⟨c1, c2, c3⟩ := hg i hi
                have hj' : j < (g i).1.length := by rw [← c2.1]; exact (List.getElem?_eq_some_iff.1 hy).1
                have hv := List.getElem?_eq_getElem hj'
                rw [hv]
                exact c2.2 j y _ hy hv
              · intro i r j y hr hy
                obtain ⟨hi, rfl⟩ := hes i r hr
                obtain ⟨c1, c2, c3⟩ := hg i hi
                have hj : j < fs.length := by rw [c3.1]; exact (List.getElem?_eq_some_iff.1 hy).1
                exact (c3.2 j _ _ (List.getElem?_eq_getElem hj) hy).one
            · obtain ⟨i, hi, rfl⟩ := hmem r hr
              exact (hg i hi).2.2.1.symm
            · obtain ⟨j, hj, rfl⟩ := hmem r hr
              exact (hg j hj).2.2.2 i f b hf hb
        · cases hL
      · cases hL
    · rename_i fields hu
      split at hL
      · rename_i l hl
        split at hL
        · rename_i hlen
          simp only [Option.some.injEq] at hL
          subst hL
          obtain ⟨xs, n', _, rfl, hcl, hxl, hf⟩ := DataW.trod_struct hu hx
          refine ⟨by rw [hcl, hlen], ?_⟩
          obtain ⟨as, a1, a2⟩ := open_fields (w := w) (B := w.heap.size) (M := M) (cs := cs) fields.toList 0 l hl (fun f hfm lf hlf hll => by
            obtain ⟨i, hi, rfl⟩ := List.getElem_of_mem hfm
            have hi2 : i < fields.size := by simpa using hi
            have hfi : fields[i]? = some fields.toList[i] := by simp [hi2]
            have h1 := hf i _ hfi
            have hxi : i < xs.length := by omega
            rw [List.getElem?_eq_getElem hxi] at h1
            refine (open_lfs n _ lf hlf n' _ _ h1 fun m hm => hw m ?_).2
            simp only [DataW.weights, hu]
            exact DataW.weights_mem_each (j := i) (t := fields.toList[i].type) (d := xs[i].1) (by simp [hi2]) (by simp [hxi]) m hm) (by omega)
          rw [List.drop_zero, List.take_of_length_le (by omega)] at a1
          exact ⟨as, a1, a2⟩
        · cases hL
      · cases hL
    · cases hL
end

/-! ### To values of the second kind -/
inductive ShB : Lf → BV → Prop
  | bool (b) : ShB .bool (.bool b)
  | int (k n) (h : (Lit.int k n).wf = true) : ShB (.int k) (.int k n)
  | str (l) (h : l.length ≤ reachBytes) : ShB .str (.str l)
  | sl (fs es) (hl : es.length ≤ reachBytes) (h1 : ∀ e ∈ es, e.length = fs.length) (h2 : ∀ e ∈ es, ∀ (i : Nat) f b, fs[i]? = some f → e[i]? = some b → ShB f b) : ShB (.sl fs) (.ls es fs.length 0 0)
theorem flatten_get {α β : Type} {R : α → β → Prop} {sz : Nat} : ∀ {rs : List (List α)} {es : List (List β)}, rs.length = es.length → (∀ r ∈ rs, r.length = sz) → (∀ e ∈ es, e.length = sz) → (∀ (i : Nat) r e, rs[i]? = some r → es[i]? = some e → L2 R r e) → L2 R rs.flatten es.flatten
  | [], [], _, _, _, _ => .nil
  | r :: rs, e :: es, hl, h1, h2, h => by
    rw [List.flatten_cons, List.flatten_cons]
    exact L2.append (h 0 r e rfl rfl) (flatten_get (by simpa using hl) (fun x hx => h1 x (List.mem_cons_of_mem _ hx)) (fun x hx => h2 x (List.mem_cons_of_mem _ hx)) fun i r e hr he => h (i + 1) r e (by simpa using hr) (by simpa using he))
  | [], _ :: _, hl, _, _, _ => by simp at hl
  | _ :: _, [], hl, _, _, _ => by simp at hl
theorem L2.choose {α β : Type} {R : α → β → Prop} : ∀ {l : List α}, (∀ a ∈ l, ∃ b, R a b) → ∃ m, L2 R l m
  | [], _ => ⟨[], .nil⟩
  | a :: l, h => by
    obtain ⟨b, hb⟩ := h a (List.mem_cons_self ..)
    obtain ⟨m, hm⟩ := L2.choose fun x hx => h x (List.mem_cons_of_mem _ hx)
    exact ⟨b :: m, .cons hb hm⟩
def ToB (f : Lf) (a : AV) (b : BV) : Prop := ShB f b ∧ ∀ om h E, E ≠ 0 → VN om h E a b
theorem Sh.toB {f : Lf} {a : AV} (s : Sh f a) : ∃ b, ToB f a b := by
  induction s with
  | bool b => exact ⟨.bool b, .bool b, fun _ _ _ _ => .sc rfl⟩
  | int k n h => exact ⟨.int k n, .int k n h, fun _ _ _ _ => .sc rfl⟩
  | str l h => exact ⟨.str l, .str l h, fun _ _ _ _ => .sc rfl⟩
  | nil fs => exact ⟨.ls [] fs.length 0 0, .sl fs [] (by simp) (by simp) (by simp), fun _ _ _ _ => .lsN⟩
  | rl fs es hl h1 h2 ih =>
    have hrow : ∀ e ∈ es, ∃ r : List BV, r.length = fs.length ∧ ∀ (i : Nat) f a b, fs[i]? = some f → e[i]? = some a → r[i]? = some b → ToB f a b := by
      intro e he
      have hl1 := h1 e he
      have : ∀ i, ∃ b, ∀ f a, fs[i]? = some f → e[i]? = some a → ToB f a b := fun i => by
        by_cases hi : i < fs.length
        · have hi' : i < e.length := by omega
          obtain ⟨b, hb⟩ := ih e he i _ _ (List.getElem?_eq_getElem hi) (List.getElem?_eq_getElem hi')
          exact ⟨b, fun f a hf ha => by
            rw [List.getElem?_eq_getElem hi] at hf
            rw [List.getElem?_eq_getElem hi'] at ha
            cases hf; cases ha; exact hb⟩
        · exact ⟨.any, fun f a hf => by rw [List.getElem?_eq_none (by omega)] at hf; cases hf⟩
      obtain ⟨g, hg⟩ := Classical.axiomOfChoice this
      refine ⟨(List.range fs.length).map g, by simp, fun i f a b hf ha hb => ?_⟩
      have hi := (List.getElem?_eq_some_iff.1 hf).1
      rw [List.getElem?_map, List.getElem?_range hi] at hb
      simp only [Option.map_some, Option.some.injEq] at hb
      subst hb
      exact hg i f a hf ha
    obtain ⟨rs, hrs⟩ := L2.choose hrow
    refine ⟨.ls rs fs.length 0 0, .sl fs rs (by rw [← hrs.1]; exact hl) (fun r hr => ?_) (fun r hr i f b hf hb => ?_), fun om h E hE => .lsO hE hrs.1 (fun r hr => h1 r hr) (fun r hr => ?_) ?_ ?_⟩
    · obtain ⟨i, hi, rfl⟩ := List.getElem_of_mem hr
      have hi' : i < es.length := by rw [hrs.1]; exact hi
      exact (hrs.2 i _ _ (List.getElem?_eq_getElem hi') (List.getElem?_eq_getElem hi)).1
    · obtain ⟨j, hj, rfl⟩ := List.getElem_of_mem hr
      have hj' : j < es.length := by rw [hrs.1]; exact hj
      have q := hrs.2 j _ _ (List.getElem?_eq_getElem hj') (List.getElem?_eq_getElem hj)
      have hif := (List.getElem?_eq_some_iff.1 hf).1
      have hie : i < es[j].length := by rw [h1 _ (List.getElem_mem hj')]; exact hif
      exact (q.2 i f _ b hf (List.getElem?_eq_getElem hie) hb).1
    · obtain ⟨i, hi, rfl⟩ := List.getElem_of_mem hr
      have hi' : i < es.length := by rw [hrs.1]; exact hi
      exact (hrs.2 i _ _ (List.getElem?_eq_getElem hi') (List.getElem?_eq_getElem hi)).1
    all_goals
      have hflat : L2 (VN om h E) es.flatten rs.flatten := flatten_get (sz := fs.length) hrs.1 (fun r hr => h1 r hr) (fun r hr => by
        obtain ⟨i, hi, rfl⟩ := List.getElem_of_mem hr
        have hi' : i < es.length := by rw [hrs.1]; exact hi
        exact (hrs.2 i _ _ (List.getElem?_eq_getElem hi') (List.getElem?_eq_getElem hi)).1) fun i e r he hr => by
          have q := hrs.2 i e r he hr
          have hle := h1 e (List.mem_of_getElem? he)
          refine ⟨by rw [hle, q.1], fun j a b ha hb => ?_⟩
          have hjf : j < fs.length := by rw [← hle]; exact (List.getElem?_eq_some_iff.1 ha).1
          exact (q.2 j _ a b (List.getElem?_eq_getElem hjf) ha hb).2 om h E hE
    · exact hflat.1
    · exact hflat.2
/-- As a call has it: what comes from outside. -/
def upm (m : Nat) : BV → BV
  | .ls es sz _ _ => .ls es sz 0 m
  | v => v
theorem ToB.vb {f : Lf} {a : AV} {b : BV} (t : ToB f a b) (G : Gh) (h : Hp) {m : Nat} (hm : m ≠ 0) (hlt : ∀ t, m.testBit t = true → t < 1000) : VB G h a (upm m b) := by
  have v := t.2 G.om h m hm
  cases v with
  | sc hs =>
    have : upm m b = b := by cases a <;> simp [scB] at hs <;> subst hs <;> rfl
    rw [this]; exact .sc hs
  | lsN => exact .lsN
  | lsA ha hk hm' hl hs hp hn hr => exact .lsA ha hk hm'.1 (fun _ => hm'.2) (fun h => absurd rfl h) hl hs hp ⟨hn, hr⟩
  | lsO hm' hl hs1 hs hn hr => exact .lsO hm hl hs1 hs ⟨hn, hr⟩
theorem toBs {L : List Lf} : ∀ {as : List AV}, L2 Sh L as → ∃ bs, L2 ShB L bs ∧ ∀ (G : Gh) (h : Hp) (m : Nat), m ≠ 0 → (∀ t, m.testBit t = true → t < 1000) → VBs G h as (bs.map (upm m)) := by
  induction L with
  | nil => intro as h; rw [h.nil_l]; exact ⟨[], .nil, fun _ _ _ _ _ => .nil⟩
  | cons f L ih =>
    intro as h
    cases as with
    | nil => have := h.1; simp at this
    | cons a as =>
      obtain ⟨b, hb⟩ := (h.2 0 f a rfl rfl).toB
      obtain ⟨bs, h1, h2⟩ := ih (as := as) ⟨by have := h.1; simpa using this, fun i x y hx hy => h.2 (i + 1) x y (by simpa using hx) (by simpa using hy)⟩
      exact ⟨b :: bs, .cons hb.1 h1, fun G h m hm hlt => .cons (hb.vb G h hm hlt) (h2 G h m hm hlt)⟩
/-- A list of rows is a list of structures. -/
theorem shb_list {α : Type} {row : α → List BV} {Q : α → Prop} {fs : List Lf} (H : ∀ bs, L2 ShB fs bs → ∃ x, bs = row x ∧ Q x) {b : BV} (h : ShB (.sl fs) b) : ∃ l : List α, b = .ls (l.map row) fs.length 0 0 ∧ l.length ≤ reachBytes ∧ ∀ x ∈ l, Q x := by
  cases h with
  | sl _ es hl h1 h2 =>
    have : ∀ e ∈ es, ∃ x, e = row x ∧ Q x := fun e he => H e ⟨(h1 e he).symm, fun i f b hf hb => h2 e he i f b hf hb⟩
    obtain ⟨l, hl2⟩ := L2.choose this
    refine ⟨l, ?_, by rw [← hl2.1]; exact hl, fun x hx => ?_⟩
    · congr 1
      refine List.ext_getElem (by simp [hl2.1]) fun i h1 h2 => ?_
      have hi : i < l.length := by simpa using h2
      rw [List.getElem_map]
      exact (hl2.2 i _ _ (List.getElem?_eq_getElem h1) (List.getElem?_eq_getElem hi)).1
    · obtain ⟨i, hi, rfl⟩ := List.getElem_of_mem hx
      have hi' : i < es.length := by rw [hl2.1]; exact hi
      exact (hl2.2 i _ _ (List.getElem?_eq_getElem hi') (List.getElem?_eq_getElem hi)).2
theorem shb_ci {b : BV} (h : ShB (.sl [.int .i64]) b) : ∃ l : List Int, b = .ls (l.map ci) 1 0 0 ∧ l.length ≤ reachBytes ∧ ∀ x ∈ l, (Lit.int .i64 x).wf = true :=
  shb_list (fun bs hb => by
    have h1 := hb.1
    match bs, h1 with
    | [b], _ =>
      have := hb.2 0 _ b rfl rfl
      cases this with
      | int k n hw => exact ⟨n, rfl, hw⟩) h
end Go.Eng

/- ENGINE 55: the closing of a law's row. -/
set_option linter.unusedVariables false
set_option linter.unusedSimpArgs false
namespace Go.Eng
open Go Go.ChangeShapes Go.WideShapes Go.RowKit

theorem vb_bool {G : Gh} {h : Hp} {a : AV} {b : Bool} (v : VB G h a (.bool b)) : a = .bool b := by
  cases v with
  | sc hs => have := toA_iff.2 hs; simpa [toA] using this.symm
def hp0 : Hp := .empty
theorem hp0_get (b : Nat) : hp0.get b = none := rfl
def gh0 : Gh := ⟨fun _ => 0, fun _ => none⟩
/-- A law that answers true, from its contract. -/
theorem law_calls {P : Program} {call : CallF} (sound : ∀ W0 B, CallOk P W0 B call) {P0 : Nat → Bool} {f : Nat} {avs : List AV} {bvs : List BV} {W : World} {vs : List Value}
    (hv : VRs W W.heap.size (fun _ => none) avs vs) (hb : VBs gh0 hp0 avs bvs) (hc : CallB call P0 f bvs [] (fun r ob => r = .ret (.bool true) ∧ ob = [])) :
    Calls P f vs.toArray W fun e W' => e = .returned (.bool true) ∧ Below W.heap.size W W' := by
  obtain ⟨rA, h', h1, G', r, ob', _, _, h4, _, h6, _⟩ := hc gh0 hp0 avs hb (fun p hp => by simp at hp) (fun a ha => absurd ha (by simp [hp0, Hp.empty]))
  subst h6
  cases rA with
  | panic x => cases h4
  | ret x =>
    have hx : x = .bool true := vb_bool h4
    subst hx
    have hi : Inv W W.heap.size (fun _ => none) hp0 W := ⟨Nat.le_refl _, fun _ _ => rfl, fun b _ => ⟨hp0_get b, rfl⟩, fun b k h => (by rw [hp0_get] at h; cases h), fun b c k l m n h => (by rw [hp0_get] at h; cases h)⟩
    refine ((sound W W.heap.size f avs hp0 _ h' h1).2 _ W vs hi hv).mono fun e W' ⟨M', hf, _, hr⟩ => ?_
    refine ⟨?_, hf.os, hf.tape, hf.out, hf.size, fun k hk => hf.same k hk fun b k' m h => (by rw [hp0_get] at h; cases h)⟩
    cases e with
    | returned v =>
      cases hr
      rfl
    | _ => cases hr
section
variable {H : Type} {enc : TypeId × Value → H} {P : Program}
theorem stays_all (hl : laidOutB P = true) {W W' : World} {sp : Nat → Bool} (hb : Below W.heap.size W W') : ∀ {ts : List TypeId} {vs : List Value} {ds : List (DataW H)} {ps : List MemPlace}, (∀ t ∈ ts, P.readableRec t = true ∧ t < P.types.size) →
    DataW.TrodAll enc P W 0 (fun _ => true) true ts vs ds ps → (∀ p ∈ ps, p.block < W.heap.size) → (∀ p ∈ ps, sp p.block = true) → DataW.TrodAll enc P W' 0 sp true ts vs ds ps
  | [], [], [], _, _, h, _, _ => h
  | t :: ts, v :: vs, d :: ds, ps, hr, ⟨p, q, h1, h2, e⟩, hlt, hs => by
    subst e
    refine ⟨p, q, WideElems.Trod_stays hl (hr t (List.mem_cons_self ..)).1 (hr t (List.mem_cons_self ..)).2 h1 (fun x hx => hb.same (hlt x (List.mem_append_left _ hx))) (fun x hx => hs x (List.mem_append_left _ hx)), ?_, rfl⟩
    exact stays_all hl hb (fun t ht => hr t (List.mem_cons_of_mem _ ht)) h2 (fun x hx => hlt x (List.mem_append_right _ hx)) (fun x hx => hs x (List.mem_append_right _ hx))
/-- What a law's row asks behind the call. -/
theorem law_post {f : Func} {s : ChangeSpec} {apart fresh handsOn again : Bool} {W W' : World} {args : Array Value} {ds gs : List (DataW H)} {before : List MemPlace} {tb : TypeId}
    (hl : laidOutB P = true) (hr : ∀ t ∈ f.params.toList, P.readableRec t = true ∧ t < P.types.size) (hW : DataW.Whole enc P f.params.toList s.vars apart W args.toList ds gs before) (hv : s.vars = [])
    (hrt : f.resultTypes = #[tb]) (htb : P.underlying tb = some .bool) (hfn : s.fn H (ds ++ gs) = { results := [.lit (.bool true)], args := ds }) (hb : Below W.heap.size W W') :
    s.post enc P f apart fresh handsOn again W args (.bool true) W' := by
  have hlt := hW.lt
  have hW2 := hW
  obtain ⟨p, q, hA, hV, rfl, hfz, hnd⟩ := hW2
  rw [hv] at hV
  obtain ⟨rfl, rfl⟩ := trodVars_none hV
  rw [List.append_nil] at hlt hfz hnd hW
  have hres : ∀ (b : Nat) (sp : Nat → Bool) (hd : Bool), DataW.TrodAll enc P W' b sp hd f.resultTypes.toList ((Value.bool true).resultList f.resultTypes.size) [.lit (.bool true)] [] := fun b sp hd => by
    rw [hrt]
    exact trodAll_mk1 ⟨1, by simp [DataW.trod, htb, Value.cells]⟩
  have hargs : ∀ sp : Nat → Bool, (∀ x ∈ p, sp x.block = true) → DataW.TrodAll enc P W' 0 sp true f.params.toList args.toList ds p := fun sp hsp => stays_all hl hb hr hA hlt hsp
  have hvars : ∀ sp : Nat → Bool, DataW.TrodVars enc P W' sp s.vars [] [] := fun sp => by rw [hv]; exact rfl
  have hok := ok_one (W' := W') (v := .bool true) hrt rfl (okWide_bool_mk htb true)
  refine ⟨ds, [], p, [], p, [], hW, ?_, ?_, ?_, hb.frame _, fun _ => ?_⟩
  · rw [hfn]; exact hres _ _ _
  · rw [hfn]; exact hargs _ fun x hx => by simpa using hlt x hx
  · rw [hfn]; exact hvars _
  · refine ⟨hok, _, [], ([] ++ p) ++ [], ⟨[] ++ p, [], trodAll_append (hargs _ (fun _ _ => rfl)) (hres _ _ _), hvars _, rfl, ?_, ?_⟩, ?_⟩
    · intro b off hp
      have hp' : MemPlace.cell b off ∈ p := by simpa using hp
      rw [hb.frozen (hlt _ hp')]
      exact hfz b off hp'
    · intro ha
      simpa using hnd ha
    · intro x hx _
      simpa using hx
theorem open_struct {n : Nat} {t : TypeId} {fields : Array Field} {L : List Lf} (hL : lfs P n t = some L) (hst : P.underlying t = some (.struct fields)) {W : World} {base : Nat} {sp : Nat → Bool} {held : Bool} {v : Value} {d : DataW H} {p : List MemPlace}
    (hok : Value.okWide P W .any base t v) (h : DataW.Trod enc P W 0 sp held t v d p) (hw : ∀ m ∈ d.weights P t, m ≤ reachBytes) : ∃ as, VR W W.heap.size (fun _ => none) (.agg as) v ∧ L2 Sh L as := by
  unfold Value.okWide at hok
  rw [hst] at hok
  obtain ⟨cs, rfl, _, _⟩ := hok
  obtain ⟨fuel, hf⟩ := h
  obtain ⟨_, as, h1, h2⟩ := open_lfs (M := fun _ => none) n t L hL fuel _ _ hf hw
  have e : (Value.agg cs).cells.toList = cs.toList := by simp [Value.cells]
  rw [e] at h1
  have := VR.agg (W0 := W) (B := W.heap.size) (M := fun _ => none) as cs.toList h1.1 h1.2
  exact ⟨as, by simpa using this, h2⟩
end
end Go.Eng
