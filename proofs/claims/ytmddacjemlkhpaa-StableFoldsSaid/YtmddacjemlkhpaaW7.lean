/- For every input that fits, folkmootlaw15.StableFolds returns true, and each argument reads as it read before. Conditions: none. -/
import Derived.Test.YtmddacjemlkhpaaW6
import Derived.Test.YtmddacjemlkhpaaW4
import Derived.Test.YtmddacjemlkhpaaRows
/- STABLE: what the printed functions compute, plainly: copies and comparisons. -/
set_option linter.unusedVariables false
set_option linter.unusedSimpArgs false
namespace Go.Eng.Try
open Go Go.Proofs Go.Eng

def Config.small (c : Config) : Prop := c.Voters.length ≤ 100000 ∧ c.Learners.length ≤ 100000
def Kept.small (k : Kept) : Prop := k.Snap.Config.small ∧ k.Entries.length ≤ 100000 ∧ ∀ e ∈ k.Entries, e.Config.small
def Record.small (r : Record) : Prop := r.Entry.Config.small ∧ r.Snap.Config.small
theorem fuel_lt {n : Nat} (h : n ≤ 200000) : n < fuel := by unfold fuel; omega
theorem foldE_acc {α γ β : Type} (h : α → γ) : ∀ (l : List α) (a : List γ), foldE (ρ := List γ ⊕ β) (fun acc x => .inl (acc ++ [h x])) .inl l a = .inl (a ++ l.map h)
  | [], a => by simp [foldE]
  | x :: l, a => by simp only [foldE, foldE_acc h l, List.map_cons, List.append_assoc, List.singleton_append]
theorem foldE_all {α τ β : Type} {p : α → Bool} {b : β} {t : τ} : ∀ (l : List α), foldE (ρ := τ ⊕ β) (fun (_ : Unit) x => bif p x then .inl () else .inr (.inr b)) (fun _ => .inl t) l () = bif l.all p then .inl t else .inr b
  | [] => rfl
  | x :: l => by
    simp only [foldE, List.all_cons]
    cases p x with
    | true => simpa using foldE_all l
    | false => rfl

theorem bd {α : Type} [DecidableEq α] [BEq α] [LawfulBEq α] (a b : α) : (a == b) = decide (a = b) := by
  rw [Bool.eq_iff_iff]
  simp
theorem F60_eq {l : List Int} (h : l.length ≤ 100000) : F60 l = some l := by
  unfold F60
  rw [app_of (by simp; omega)]
  rfl
theorem F51_eq {c : Config} (h : c.small) : F51 c = some c := by
  unfold F51
  rw [F60_eq h.1, F60_eq h.2]
  rfl
theorem F40_eq {e : Entry} (h : e.Config.small) : F40 e = some e := by
  unfold F40
  rw [F51_eq h]
  rfl
theorem F39_eq {e : Snapshot} (h : e.Config.small) : F39 e = some e := by
  unfold F39
  rw [F51_eq h]
  rfl
theorem F25_eq {c : Config} (h : c.small) : F25 c = some c := by
  unfold F25
  rw [app_of (by have := h.1; simp; omega), app_of (by have := h.2; simp; omega)]
  rfl
theorem F13_eq {e : Entry} (h : e.Config.small) : F13 e = some e := by
  unfold F13
  rw [F25_eq h]
  rfl
theorem F12_eq {e : Snapshot} (h : e.Config.small) : F12 e = some e := by
  unfold F12
  rw [F25_eq h]
  rfl
theorem copy_loop {β : Type} {F : Entry → Option Entry} {l : List Entry} {K : List Entry → Option β} (hF : ∀ e ∈ l, F e = some e) (hl : l.length ≤ 100000) :
    lp2 (fun (v7 : Int) (v8 : List Entry) => bif (decide (v7 < (len l))) then ((idx l v7).bind fun x10 => (F x10).bind fun r12 => (app v8 [r12]).bind fun x14 => some (.inl ((fwrap .i64 (v7 + 1)), x14))) else (some (.inr (.inl v8)))) 0 [] K = K l := by
  unfold lp2
  refine (lp_list (fun i (a : List Entry) => ((i : Int), a)) (fun acc x => .inl (acc ++ [x])) .inl (fun i a => a.length = i) l [] rfl (fuel_lt (by omega)) ?_ ?_ rfl).trans ?_
  · intro i a x hx hP
    have hi := lt_of_get hx
    refine ⟨?_, fun a' h => by cases h; simp [hP]⟩
    have h1 : decide ((i : Int) < len l) = true := by unfold len; exact decide_eq_true (by omega)
    simp only [h1, cond_true, idx_of hx, Option.bind_some, hF x (List.mem_of_getElem? hx), app_of (l := a) (m := [x]) (by simp; omega), nxE]
    rw [fwrap_i64 (by omega) (by omega)]
    rfl
  · intro a hP
    have h1 : decide ((l.length : Int) < len l) = false := by unfold len; exact decide_eq_false (by omega)
    simp only [h1, cond_false]
  · have := foldE_acc (β := β) (fun e : Entry => e) l []
    simp only [List.map_id', List.nil_append] at this
    rw [this]
    rfl
theorem F16_eq {k : Kept} (h : k.small) : F16 k = some k := by
  unfold F16
  rw [F39_eq h.1]
  simp only [Option.bind_some, jn]
  rw [copy_loop (fun e he => F40_eq (h.2.2 e he)) h.2.1]
theorem F6_eq {k : Kept} (h : k.small) : F6 k = some k := by
  unfold F6
  rw [F12_eq h.1]
  simp only [Option.bind_some, jn]
  rw [copy_loop (fun e he => F13_eq (h.2.2 e he)) h.2.1]

theorem beq_len {α : Type} {a b : List α} : ((len a) == (len b)) = decide (a.length = b.length) := by
  unfold len
  rw [Bool.eq_iff_iff]
  simp only [beq_iff_eq, decide_eq_true_eq]
  omega
theorem zip_all : ∀ {a b : List Int}, a.length = b.length → (a.zip b).all (fun p => p.1 == p.2) = decide (a = b)
  | [], [], _ => rfl
  | x :: a, y :: b, h => by
    simp only [List.zip_cons_cons, List.all_cons, zip_all (a := a) (b := b) (by simpa using h)]
    rw [Bool.eq_iff_iff]
    simp
  | [], _ :: _, h => by simp at h
  | _ :: _, [], h => by simp at h
theorem F54_eq {a b : List Int} (h : a.length ≤ 100000) : F54 a b = some (decide (a = b)) := by
  unfold F54
  have e1 : ((len a) != (len b)) = !decide (a.length = b.length) := by rw [bne, beq_len]
  rw [e1]
  by_cases hl : a.length = b.length
  · simp only [hl, decide_true, Bool.not_true, cond_false, jn]
    unfold lp1
    refine (lp_list (fun i (_ : Unit) => (i : Int)) (fun _ x => bif (x.1 == x.2) then .inl () else .inr (.inr false)) (fun _ => .inl ()) (fun _ _ => True) (a.zip b) () rfl (fuel_lt (by simp; omega)) ?_ ?_ trivial).trans ?_
    · intro i _ x hx _
      have hx' := List.getElem?_zip_eq_some.1 hx
      have hi := lt_of_get hx'.1
      refine ⟨?_, fun _ _ => trivial⟩
      have h1 : decide ((i : Int) < len a) = true := by unfold len; exact decide_eq_true (by omega)
      simp only [h1, cond_true, idx_of hx'.1, idx_of hx'.2, Option.bind_some]
      rw [fwrap_i64 (by omega) (by omega)]
      by_cases he : x.1 = x.2
      · simp [he, nxE]
      · have : (x.1 != x.2) = true := by simpa using he
        have h2 : (x.1 == x.2) = false := by simpa using he
        simp only [this, h2, cond_true, cond_false, nxE]
    · intro _ _
      have h1 : decide (((a.zip b).length : Int) < len a) = false := by unfold len; exact decide_eq_false (by simp; omega)
      simp only [h1, cond_false]
    · rw [foldE_all, zip_all hl]
      by_cases hab : a = b
      · simp [hab, outE]
      · simp [hab, outE]
  · have : a ≠ b := fun h => hl (by rw [h])
    simp [hl, this]
theorem F44_eq {a b : Config} (h : a.small) : F44 a b = some (decide (a = b)) := by
  unfold F44
  simp only [jn]
  rw [F54_eq h.1, F54_eq h.2]
  obtain ⟨v, l⟩ := a
  obtain ⟨v', l'⟩ := b
  simp only [Option.bind_some, Config.mk.injEq]
  by_cases h1 : v = v' <;> by_cases h2 : l = l' <;> simp [h1, h2]
theorem F21_eq {a b : Snapshot} (h : a.Config.small) : F21 a b = some (decide (a = b)) := by
  unfold F21
  simp only [jn]
  rw [F44_eq h]
  obtain ⟨i, t, c, d⟩ := a
  obtain ⟨i', t', c', d'⟩ := b
  simp only [Option.bind_some, Snapshot.mk.injEq]
  by_cases h1 : i = i' <;> by_cases h2 : t = t' <;> by_cases h3 : d = d' <;> by_cases h4 : c = c' <;> simp [bd, h1, h2, h3, h4]
theorem F22_eq {a b : Entry} (h : a.Config.small) : F22 a b = some (decide (a = b)) := by
  unfold F22
  simp only [jn]
  rw [F44_eq h]
  obtain ⟨i, t, k, c, d⟩ := a
  obtain ⟨i', t', k', c', d'⟩ := b
  simp only [Option.bind_some, Entry.mk.injEq]
  by_cases h1 : i = i' <;> by_cases h2 : t = t' <;> by_cases h3 : d = d' <;> by_cases h4 : c = c' <;> by_cases h5 : k = k' <;> simp [bd, h1, h2, h3, h4, h5]
def c0 : Config := ⟨[], []⟩
def s0 : Snapshot := ⟨0, 0, ⟨[], []⟩, []⟩
def e0 : Entry := ⟨0, 0, 0, ⟨[], []⟩, []⟩
def k0 : Kept := ⟨0, 0, ⟨0, 0, ⟨[], []⟩, []⟩, []⟩
theorem F45_eq {c : Config} (h : c.small) : F45 c = some (decide (c = ⟨[], []⟩)) := by
  unfold F45
  obtain ⟨v, l⟩ := c
  have h1 : v.length ≤ 100000 := h.1
  have h2 : l.length ≤ 100000 := h.2
  simp only [len, Config.mk.injEq]
  rw [fwrap_i64 (by omega) (by omega)]
  congr 1
  rw [Bool.eq_iff_iff]
  simp only [beq_iff_eq, decide_eq_true_eq, ← List.length_eq_zero_iff]
  omega
theorem F26_eq {s : Snapshot} (h : s.Config.small) : F26 s = some (decide (s = s0)) := by
  unfold F26
  simp only [jn]
  rw [F45_eq h]
  obtain ⟨i, t, c, d⟩ := s
  simp only [Option.bind_some, s0, Snapshot.mk.injEq]
  by_cases h1 : i = 0 <;> by_cases h2 : t = 0 <;> by_cases h3 : d = [] <;> by_cases h4 : c = ⟨[], []⟩ <;> simp [bd, h1, h2, h3, h4]
theorem F49_eq {e : Entry} (h : e.Config.small) : F49 e = some (decide (e = e0)) := by
  unfold F49
  simp only [jn]
  rw [F45_eq h]
  obtain ⟨i, t, k, c, d⟩ := e
  simp only [Option.bind_some, e0, Entry.mk.injEq]
  by_cases h1 : i = 0 <;> by_cases h2 : t = 0 <;> by_cases h3 : d = [] <;> by_cases h4 : c = ⟨[], []⟩ <;> by_cases h5 : k = 0 <;> simp [bd, h1, h2, h3, h4, h5]
end Go.Eng.Try

/- STABLE: what the printed functions compute, plainly: what is kept, whether it is right. -/
set_option linter.unusedVariables false
set_option linter.unusedSimpArgs false
namespace Go.Eng.Try
open Go Go.Proofs Go.Eng

def allI {α : Type} (p : Nat → α → Bool) : Nat → List α → Bool
  | _, [] => true
  | i, x :: l => p i x && allI p (i + 1) l
theorem foldE_I {α τ β : Type} {p : Nat → α → Bool} {b : β} {t : τ} : ∀ (l : List α) (i : Nat), foldE (ρ := τ ⊕ β) (fun (i : Nat) x => bif p i x then .inl (i + 1) else .inr (.inr b)) (fun _ => .inl t) l i = bif allI p i l then .inl t else .inr b
  | [], _ => rfl
  | x :: l, i => by
    simp only [foldE, allI]
    cases p i x with
    | true => simpa using foldE_I l (i + 1)
    | false => rfl
theorem allI_iff {α : Type} {p : Nat → α → Bool} : ∀ {l : List α} {j : Nat}, allI p j l = true ↔ ∀ i x, l[i]? = some x → p (j + i) x = true
  | [], j => by simp [allI]
  | y :: l, j => by
    simp only [allI, Bool.and_eq_true, allI_iff]
    constructor
    · rintro ⟨h1, h2⟩ i x hx
      cases i with
      | zero => simp at hx; subst hx; exact h1
      | succ i => have := h2 i x (by simpa using hx); rwa [show j + 1 + i = j + (i + 1) from by omega] at this
    · intro h
      exact ⟨h 0 y (by simp), fun i x hx => by have := h (i + 1) x (by simpa using hx); rwa [show j + 1 + i = j + (i + 1) from by omega]⟩
/-- A loop over a list that ends early with the one answer. -/
theorem loop_all {α β : Type} {l : List α} {Bd : Int → α → Option (Int ⊕ (Unit ⊕ β))} {p : Nat → α → Bool} {b : β} {K : Unit → Option β} (hl : l.length ≤ 200000)
    (h : ∀ (i : Nat) x, l[i]? = some x → Bd (i : Int) x = bif p i x then some (.inl (fwrap .i64 ((i : Int) + 1))) else some (.inr (.inr b))) :
    lp1 (fun v : Int => bif (decide (v < (len l))) then ((idx l v).bind fun x => Bd v x) else (some (.inr (.inl ())))) 0 K = bif allI p 0 l then K () else some b := by
  unfold lp1
  refine (lp_list (fun i (a : Nat) => (i : Int)) (fun i x => bif p i x then .inl (i + 1) else .inr (.inr b)) (fun _ => .inl ()) (fun i a => a = i) l 0 rfl (fuel_lt hl) ?_ ?_ rfl).trans ?_
  · intro i a x hx hP
    subst hP
    have hi := lt_of_get hx
    have h1 : decide ((a : Int) < len l) = true := by unfold len; exact decide_eq_true (by omega)
    simp only [h1, cond_true, idx_of hx, Option.bind_some, h a x hx]
    rw [fwrap_i64 (by omega) (by omega)]
    cases p a x with
    | true => exact ⟨by simp [nxE], fun a' h => by simp at h; exact h.symm⟩
    | false => exact ⟨by simp [nxE], fun a' h => by simp at h⟩
  · intro a hP
    have h1 : decide ((l.length : Int) < len l) = false := by unfold len; exact decide_eq_false (by omega)
    simp only [h1, cond_false]
  · rw [foldE_I]
    cases allI p 0 l <;> rfl

def vr (k : Kept) : Record := ⟨1, k.Term, k.Vote, e0, 0, s0⟩
def sr (s : Snapshot) : Record := ⟨4, 0, 0, e0, 0, s⟩
def er (e : Entry) : Record := ⟨2, 0, 0, e, 0, s0⟩
def recs (k : Kept) : List Record := (bif decide (k.Snap = s0) then [vr k] else [vr k, sr k.Snap]) ++ k.Entries.map er
theorem rec_loop {β : Type} {F : Entry → Option Entry} {l : List Entry} {v : List Record} {K : List Record → Option β} {Bd : List Record → Int → Entry → Option ((List Record × Int) ⊕ (List Record ⊕ β))} (hl : l.length ≤ 100000) (hv : v.length ≤ 2)
    (hB : ∀ (a : List Record) (i : Nat) x, l[i]? = some x → a.length ≤ 200000 → Bd a (i : Int) x = some (.inl (a ++ [er x], fwrap .i64 ((i : Int) + 1)))) :
    lp2 (fun (v11 : List Record) (v12 : Int) => bif (decide (v12 < (len l))) then ((idx l v12).bind fun x14 => Bd v11 v12 x14) else (some (.inr (.inl v11)))) v 0 K = K (v ++ l.map er) := by
  unfold lp2
  refine (lp_list (fun i (a : List Record) => (a, (i : Int))) (fun acc x => .inl (acc ++ [er x])) .inl (fun i a => a.length ≤ i + 2) l v rfl (fuel_lt (by omega)) ?_ ?_ (by omega)).trans ?_
  · intro i a x hx hP
    have hi := lt_of_get hx
    refine ⟨?_, fun a' h => by cases h; simp; omega⟩
    have h1 : decide ((i : Int) < len l) = true := by unfold len; exact decide_eq_true (by omega)
    simp only [h1, cond_true, idx_of hx, Option.bind_some, hB a i x hx (by omega), nxE]
    rw [fwrap_i64 (by omega) (by omega)]
    rfl
  · intro a hP
    have h1 : decide ((l.length : Int) < len l) = false := by unfold len; exact decide_eq_false (by omega)
    simp only [h1, cond_false]
  · rw [foldE_acc]
    rfl
theorem F28_eq {k : Kept} (h : k.small) : F28 k = some (recs k) := by
  unfold F28
  simp only [jn]
  have key : ∀ v : List Record, v.length ≤ 2 → lp2 (fun (v11 : List Record) (v12 : Int) => bif (decide (v12 < (len k.Entries))) then ((idx k.Entries v12).bind fun x14 => (app v11 ([(⟨2, 0, 0, x14, 0, (⟨0, 0, (⟨[], []⟩ : Config), []⟩ : Snapshot)⟩ : Record)])).bind fun x16 => some (.inl (x16, (fwrap .i64 (v12 + 1))))) else (some (.inr (.inl v11)))) v 0 (fun (q : (List Record)) => some q) = some (v ++ k.Entries.map er) := fun v hv =>
    rec_loop (F := some) h.2.1 hv fun a i x hx ha => by
      rw [app_of (by simp; omega)]
      rfl
  rw [F26_eq h.1]
  simp only [Option.bind_some]
  by_cases hs : k.Snap = s0
  · simp only [hs, decide_true, Bool.not_true, cond_false]
    rw [key _ (by simp)]
    unfold recs
    rw [decide_eq_true hs]
    rfl
  · simp only [hs, decide_false, Bool.not_false, cond_true]
    rw [app_of (by simp)]
    simp only [Option.bind_some]
    rw [key _ (by simp)]
    unfold recs
    rw [decide_eq_false hs]
    rfl
theorem F41_eq {k : Kept} (h : k.small) : F41 k = some (recs k) := by
  unfold F41
  simp only [jn]
  have key : ∀ v : List Record, v.length ≤ 2 → lp2 (fun (v13 : List Record) (v14 : Int) => bif (decide (v14 < (len k.Entries))) then ((idx k.Entries v14).bind fun x16 => (F13 x16).bind fun r18 => (app v13 ([(⟨2, 0, 0, r18, 0, (⟨0, 0, (⟨[], []⟩ : Config), []⟩ : Snapshot)⟩ : Record)])).bind fun x20 => some (.inl (x20, (fwrap .i64 (v14 + 1))))) else (some (.inr (.inl v13)))) v 0 (fun (q : (List Record)) => some q) = some (v ++ k.Entries.map er) := fun v hv =>
    rec_loop (F := some) h.2.1 hv fun a i x hx ha => by
      rw [F13_eq (h.2.2 x (List.mem_of_getElem? hx))]
      simp only [Option.bind_some]
      rw [app_of (by simp; omega)]
      rfl
  rw [F21_eq h.1]
  simp only [Option.bind_some]
  by_cases hs : k.Snap = s0
  · have hs' : k.Snap = ⟨0, 0, ⟨[], []⟩, []⟩ := hs
    simp only [hs', decide_true, Bool.not_true, cond_false]
    rw [key _ (by simp)]
    unfold recs
    rw [decide_eq_true hs]
    rfl
  · have hs' : ¬ k.Snap = ⟨0, 0, ⟨[], []⟩, []⟩ := hs
    simp only [hs', decide_false, Bool.not_false, cond_true]
    rw [F12_eq h.1]
    simp only [Option.bind_some]
    rw [app_of (by simp)]
    simp only [Option.bind_some]
    rw [key _ (by simp)]
    unfold recs
    rw [decide_eq_false hs]
    rfl
theorem F42_eq {r : Record} (h : r.small) : F42 r = some r.rcd.e' := by
  unfold F42
  have h1 := h.1.1; have h2 := h.1.2; have h3 := h.2.1; have h4 := h.2.2
  rw [if_pos ⟨by omega, by omega, by omega, by omega⟩]
theorem recs_small {k : Kept} (h : k.small) : ∀ r ∈ recs k, r.small := by
  intro r hr
  have hz : Config.small ⟨[], []⟩ := ⟨by simp, by simp⟩
  simp only [recs, List.mem_append, List.mem_map] at hr
  rcases hr with hr | ⟨e, he, rfl⟩
  · cases hd : decide (k.Snap = s0) with
    | true => rw [hd] at hr; simp at hr; subst hr; exact ⟨hz, hz⟩
    | false => rw [hd] at hr; simp at hr; rcases hr with rfl | rfl <;> first | exact ⟨hz, hz⟩ | exact ⟨hz, h.1⟩
  · exact ⟨h.2.2 e he, hz⟩
theorem recs_len {k : Kept} (h : k.small) : (recs k).length ≤ 100002 := by
  have := h.2.1
  unfold recs
  cases decide (k.Snap = s0) <;> simp <;> omega
def fine (l : List Record) : Bool := l.all fun r => r.rcd.e' == 0
theorem allI_const {α : Type} {p : α → Bool} : ∀ (l : List α) (i : Nat), allI (fun _ x => p x) i l = l.all p
  | [], _ => rfl
  | x :: l, i => by simp only [allI, List.all_cons, allI_const l]
theorem foldE_ix {α : Type} {p : α → Bool} : ∀ (l : List α) (i : Nat), (l.all p = true ∧ foldE (ρ := Unit ⊕ Int) (fun (i : Nat) x => bif p x then .inl (i + 1) else .inr (.inr (i : Int))) (fun _ => .inl ()) l i = .inl ()) ∨ (l.all p = false ∧ ∃ j : Nat, foldE (ρ := Unit ⊕ Int) (fun (i : Nat) x => bif p x then .inl (i + 1) else .inr (.inr (i : Int))) (fun _ => .inl ()) l i = .inr (j : Int))
  | [], _ => .inl ⟨rfl, rfl⟩
  | x :: l, i => by
    simp only [foldE, List.all_cons]
    cases p x with
    | true => simpa using foldE_ix l (i + 1)
    | false => exact .inr ⟨rfl, i, rfl⟩
theorem F27_eq {l : List Record} (h : l.length ≤ 200000) : F27_29 l = some (!fine l) := by
  have hF : ∀ r : Record, F29 r = some (r.rcd.e' != 0) := fun r => rfl
  unfold F27_29 F46_29
  simp only [jn]
  unfold lp1
  rw [lp_list (f := fun v : Int => _) (s := (0 : Int)) (fun i (a : Nat) => (i : Int)) (fun (i : Nat) (x : Record) => bif (x.rcd.e' == 0) then .inl (i + 1) else .inr (.inr (i : Int))) (fun _ => .inl ()) (fun i a => a = i) l 0 rfl (fuel_lt h) ?_ ?_ rfl]
  · rcases foldE_ix (p := fun r : Record => r.rcd.e' == 0) l 0 with ⟨h1, h2⟩ | ⟨h1, j, h2⟩
    · rw [h2]
      simp only [outE, Option.bind_some, fine, h1]
      rfl
    · rw [h2]
      simp only [outE, Option.bind_some, fine, h1]
      simp
  · intro i a x hx hP
    subst hP
    have hi := lt_of_get hx
    have h1 : decide ((a : Int) < len l) = true := by unfold len; exact decide_eq_true (by omega)
    simp only [h1, cond_true, idx_of hx, Option.bind_some, hF, bne]
    rw [fwrap_i64 (by omega) (by omega)]
    cases x.rcd.e' == 0 with
    | true => exact ⟨by simp [nxE], fun a' h => by simp at h; exact h.symm⟩
    | false => exact ⟨by simp [nxE], fun a' h => by simp at h⟩
  · intro a hP
    have h1 : decide ((l.length : Int) < len l) = false := by unfold len; exact decide_eq_false (by omega)
    simp only [h1, cond_false]
/-- Is it right? -/
def numbered (k : Kept) : Bool := allI (fun i e => e.Index == fwrap .i64 (fwrap .i64 (k.Snap.Index + 1) + (i : Int))) 0 k.Entries
def rightB (k : Kept) : Bool := decide (k.Entries.length ≤ 10000) && (decide (1 ≤ k.Snap.Index) || decide (k.Snap = s0)) && (numbered k && fine (recs k))
theorem F14_eq {k : Kept} (h : k.small) : F14 k = some (rightB k) := by
  unfold F14
  simp only [jn]
  rw [loop_all (l := k.Entries) (p := fun i e => e.Index == fwrap .i64 (fwrap .i64 (k.Snap.Index + 1) + (i : Int))) (b := false) (by have := h.2.1; omega) (fun i x hx => by
    simp only [bne]
    cases x.Index == fwrap .i64 (fwrap .i64 (k.Snap.Index + 1) + (i : Int)) <;> rfl)]
  rw [F26_eq h.1, F28_eq h]
  simp only [Option.bind_some]
  rw [F27_eq (by have := recs_len h; omega)]
  simp only [Option.bind_some, Bool.not_not, rightB, numbered]
  by_cases h1 : k.Entries.length ≤ 10000
  · have e1 : decide ((len k.Entries) > 10000) = false := decide_eq_false (by unfold len; omega)
    simp only [e1, cond_false, h1, decide_true, Bool.true_and]
    by_cases h2 : 1 ≤ k.Snap.Index
    · have e2 : decide (k.Snap.Index < 1) = false := decide_eq_false (by omega)
      simp only [e2, cond_false, h2, decide_true, Bool.true_or, Bool.true_and]
      cases allI (fun i (e : Entry) => e.Index == fwrap .i64 (fwrap .i64 (k.Snap.Index + 1) + (i : Int))) 0 k.Entries <;> rfl
    · have e2 : decide (k.Snap.Index < 1) = true := decide_eq_true (by omega)
      simp only [e2, cond_true, h2, decide_false, Bool.false_or]
      cases decide (k.Snap = s0) with
      | false => rfl
      | true => 
        simp only [Bool.not_true, cond_false, Bool.true_and]
        cases allI (fun i (e : Entry) => e.Index == fwrap .i64 (fwrap .i64 (k.Snap.Index + 1) + (i : Int))) 0 k.Entries <;> rfl
  · have e1 : decide ((len k.Entries) > 10000) = true := decide_eq_true (by unfold len; omega)
    simp only [e1, cond_true, h1, decide_false, Bool.false_and]
theorem F17_eq {k : Kept} (h : k.small) : F17 k = some (rightB k) := by
  unfold F17
  simp only [jn]
  rw [loop_all (l := k.Entries) (p := fun i e => e.Index == fwrap .i64 (fwrap .i64 (k.Snap.Index + 1) + (i : Int))) (b := false) (by have := h.2.1; omega) (fun i x hx => by
    simp only [bne]
    cases x.Index == fwrap .i64 (fwrap .i64 (k.Snap.Index + 1) + (i : Int)) <;> rfl)]
  rw [F21_eq h.1, F41_eq h]
  simp only [Option.bind_some]
  rw [loop_all (l := recs k) (p := fun _ (r : Record) => r.rcd.e' == 0) (b := false) (by have := recs_len h; omega) (fun i x hx => by
    rw [F42_eq (recs_small h x (List.mem_of_getElem? hx))]
    simp only [Option.bind_some, bne]
    cases x.rcd.e' == 0 <;> rfl), allI_const]
  simp only [Option.bind_some, Bool.not_not, rightB, numbered]
  have ef : (recs k).all (fun r => r.rcd.e' == 0) = fine (recs k) := rfl
  rw [ef]
  by_cases h1 : k.Entries.length ≤ 10000
  · have e1 : decide ((len k.Entries) > 10000) = false := decide_eq_false (by unfold len; omega)
    simp only [e1, cond_false, h1, decide_true, Bool.true_and]
    by_cases h2 : 1 ≤ k.Snap.Index
    · have e2 : decide (k.Snap.Index < 1) = false := decide_eq_false (by omega)
      simp only [e2, cond_false, h2, decide_true, Bool.true_or, Bool.true_and]
      cases allI (fun i (e : Entry) => e.Index == fwrap .i64 (fwrap .i64 (k.Snap.Index + 1) + (i : Int))) 0 k.Entries <;> cases fine (recs k) <;> rfl
    · have e2 : decide (k.Snap.Index < 1) = true := decide_eq_true (by omega)
      have es : decide (k.Snap = ⟨0, 0, ⟨[], []⟩, []⟩) = decide (k.Snap = s0) := rfl
      simp only [e2, cond_true, h2, decide_false, Bool.false_or, es]
      cases decide (k.Snap = s0) with
      | false => rfl
      | true => 
        simp only [Bool.not_true, cond_false, Bool.true_and]
        cases allI (fun i (e : Entry) => e.Index == fwrap .i64 (fwrap .i64 (k.Snap.Index + 1) + (i : Int))) 0 k.Entries <;> cases fine (recs k) <;> rfl
  · have e1 : decide ((len k.Entries) > 10000) = true := decide_eq_true (by unfold len; omega)
    simp only [e1, cond_true, h1, decide_false, Bool.false_and]
end Go.Eng.Try

/- STABLE: what the printed functions compute, plainly: what a record makes of what is kept. -/
set_option linter.unusedVariables false
set_option linter.unusedSimpArgs false
namespace Go.Eng.Try
open Go Go.Proofs Go.Eng

theorem fe_zero : ∀ {l : List Int}, fe l = 0 ↔ ∀ x ∈ l, x = 0
  | [] => by simp [fe]
  | e :: l => by
    simp only [fe, List.mem_cons, forall_eq_or_imp]
    by_cases h : e = 0
    · simp [h, fe_zero (l := l)]
    · simp [h]
theorem numE_zero {n : Int} : numE n = 0 ↔ 0 ≤ n ∧ n ≤ 1000000000 := by
  unfold numE
  split <;> simp_all
theorem rcd_zero {r : Record} : r.rcd.e' = 0 ↔ numE r.Kind = 0 ∧ numE r.Term = 0 ∧ numE r.Vote = 0 ∧ numE r.Entry.Index = 0 ∧ numE r.Entry.Term = 0 ∧ numE r.Entry.Kind = 0 ∧ r.Entry.Config.cfg.e = 0 ∧ textE r.Entry.Data = 0 ∧ numE r.Index = 0 ∧ numE r.Snap.Index = 0 ∧ numE r.Snap.Term = 0 ∧ r.Snap.Config.cfg.e = 0 ∧ textE r.Snap.Data = 0 := by
  unfold Rcd.e'
  rw [fe_zero]
  simp [Record.rcd]
def bareB (r : Record) : Bool :=
  bif r.Kind == 1 then decide (r.Entry = e0) && (r.Index == 0) && decide (r.Snap = s0)
  else bif r.Kind == 2 then (r.Term == 0) && (r.Vote == 0) && (r.Index == 0) && decide (r.Snap = s0)
  else bif r.Kind == 3 then (r.Term == 0) && (r.Vote == 0) && decide (r.Entry = e0) && decide (r.Snap = s0)
  else bif r.Kind == 4 then (r.Term == 0) && (r.Vote == 0) && decide (r.Entry = e0) && (r.Index == 0)
  else false
theorem F34_eq {r : Record} (h : r.small) : F34 r = some (bareB r) := by
  unfold F34 bareB
  simp only [jn]
  rw [F49_eq h.1, F26_eq h.2]
  simp only [Option.bind_some]
  cases r.Kind == 1 <;> cases r.Kind == 2 <;> cases r.Kind == 3 <;> cases r.Kind == 4 <;> cases r.Term == 0 <;> cases r.Vote == 0 <;> cases r.Index == 0 <;> cases decide (r.Entry = e0) <;> cases decide (r.Snap = s0) <;> rfl
theorem F19_eq {r : Record} (h : r.small) : F19 r = some ((r.rcd.e' == 0) && bareB r) := by
  unfold F19 bareB
  simp only [jn]
  rw [F42_eq h, F22_eq h.1, F21_eq h.2]
  simp only [Option.bind_some]
  have e1 : decide (r.Entry = ⟨0, 0, 0, ⟨[], []⟩, []⟩) = decide (r.Entry = e0) := rfl
  have e2 : decide (r.Snap = ⟨0, 0, ⟨[], []⟩, []⟩) = decide (r.Snap = s0) := rfl
  simp only [e1, e2]
  cases r.rcd.e' == 0 <;> cases r.Kind == 1 <;> cases r.Kind == 2 <;> cases r.Kind == 3 <;> cases r.Kind == 4 <;> cases r.Term == 0 <;> cases r.Vote == 0 <;> cases r.Index == 0 <;> cases decide (r.Entry = e0) <;> cases decide (r.Snap = s0) <;> rfl
/-- The last number. -/
def lastK (k : Kept) : Int := k.Snap.Index + (k.Entries.length : Int)
def stepB (k : Kept) (r : Record) : Kept × Int :=
  if r.Kind = 1 then (if r.Term < k.Term then (k0, 140) else (⟨r.Term, r.Vote, k.Snap, k.Entries⟩, 0))
  else if r.Kind = 2 then (if r.Entry.Index ≠ lastK k + 1 then (k0, 140) else if 10000 ≤ k.Entries.length then (k0, 2) else (⟨k.Term, k.Vote, k.Snap, k.Entries ++ [r.Entry]⟩, 0))
  else if r.Kind = 3 then (if r.Index ≤ k.Snap.Index ∨ lastK k < r.Index then (k0, 140) else (⟨k.Term, k.Vote, k.Snap, k.Entries.take (r.Index - k.Snap.Index - 1).toNat⟩, 0))
  else (if r.Snap.Index ≤ k.Snap.Index then (k0, 140) else (⟨k.Term, k.Vote, r.Snap, match k.Entries[(r.Snap.Index - k.Snap.Index - 1).toNat]? with
    | some e => if e.Term = r.Snap.Term then k.Entries.drop (r.Snap.Index - k.Snap.Index - 1 + 1).toNat else []
    | none => []⟩, 0))
/-- What is needed of what is kept, and of a record. -/
structure Fit (k : Kept) (r : Record) : Prop where
  ks : k.small
  rs : r.small
  s0 : 0 ≤ k.Snap.Index
  s1 : k.Snap.Index ≤ 1000000000
  l : k.Entries.length ≤ 10000
  kd : r.Kind = 1 ∨ r.Kind = 2 ∨ r.Kind = 3 ∨ r.Kind = 4
  i0 : 0 ≤ r.Index
  i1 : r.Index ≤ 1000000000
  n0 : 0 ≤ r.Snap.Index
  n1 : r.Snap.Index ≤ 1000000000
theorem right_snap {k : Kept} (h : rightB k = true) : 0 ≤ k.Snap.Index ∧ k.Snap.Index ≤ 1000000000 := by
  simp only [rightB, Bool.and_eq_true, Bool.or_eq_true, decide_eq_true_eq] at h
  by_cases hs : k.Snap = Try.s0
  · rw [hs]; simp [Try.s0]
  · have hm : sr k.Snap ∈ recs k := by
      unfold recs
      rw [decide_eq_false hs]
      simp
    have hf := h.2.2
    unfold fine at hf
    rw [List.all_eq_true] at hf
    have := hf _ hm
    simp only [beq_iff_eq] at this
    rw [rcd_zero] at this
    exact numE_zero.1 this.2.2.2.2.2.2.2.2.2.1
theorem right_fit {k : Kept} {r : Record} (hk : k.small) (hr : r.small) (h1 : rightB k = true) (h2 : r.rcd.e' = 0) (h3 : bareB r = true) : Fit k r := by
  have hs := right_snap h1
  simp only [rightB, Bool.and_eq_true, Bool.or_eq_true, decide_eq_true_eq] at h1
  rw [rcd_zero] at h2
  have hi := numE_zero.1 h2.2.2.2.2.2.2.2.2.1
  have hn := numE_zero.1 h2.2.2.2.2.2.2.2.2.2.1
  refine ⟨hk, hr, hs.1, hs.2, h1.1.1, ?_, hi.1, hi.2, hn.1, hn.2⟩
  unfold bareB at h3
  simp only [bd] at h3
  by_cases e1 : r.Kind = 1
  · exact .inl e1
  by_cases e2 : r.Kind = 2
  · exact .inr (.inl e2)
  by_cases e3 : r.Kind = 3
  · exact .inr (.inr (.inl e3))
  by_cases e4 : r.Kind = 4
  · exact .inr (.inr (.inr e4))
  · simp [e1, e2, e3, e4] at h3
theorem sli_take {α : Type} {l : List α} {n : Int} (h0 : 0 ≤ n) (h1 : n ≤ (l.length : Int)) : sli l 0 n = some (l.take n.toNat) := by
  unfold sli
  rw [if_pos ⟨by omega, h0, h1⟩]
  rfl
theorem sli_drop {α : Type} {l : List α} {n : Int} (h0 : 0 ≤ n) (h1 : n ≤ (l.length : Int)) : sli l n (len l) = some (l.drop n.toNat) := by
  unfold sli len
  rw [if_pos ⟨h0, h1, by omega⟩]
  simp
theorem idx_get {α : Type} {l : List α} {n : Int} (h0 : 0 ≤ n) : idx l n = l[n.toNat]? := by
  unfold idx
  rw [if_pos h0]
theorem last_eq {k : Kept} {r : Record} (f : Fit k r) : fwrap .i64 (k.Snap.Index + (len k.Entries)) = lastK k := by
  have := f.s0; have := f.s1; have := f.l
  unfold lastK len
  rw [fwrap_i64 (by omega) (by omega)]
theorem F20_eq {k : Kept} {r : Record} (f : Fit k r) : F20 k r = some (stepB k r) := by
  have hs0 := f.s0; have hs1 := f.s1; have hl := f.l; have hi0 := f.i0; have hi1 := f.i1; have hn0 := f.n0; have hn1 := f.n1
  unfold F20 F43
  simp only [jn]
  rw [F6_eq f.ks]
  simp only [Option.bind_some, last_eq f, F18]
  unfold stepB
  have eL : fwrap .i64 (lastK k + 1) = lastK k + 1 := by unfold lastK; rw [fwrap_i64 (by omega) (by omega)]
  rcases f.kd with h | h | h | h
  · simp only [h, bd, decide_true, cond_true, if_true]
    by_cases ht : r.Term < k.Term
    · simp [ht, k0]
    · simp [ht]
  · simp only [h, bd, bne]
    by_cases ht : r.Entry.Index = lastK k + 1
    · by_cases hg : 10000 ≤ k.Entries.length
      · have : (len k.Entries ≥ 10000) := by unfold len; omega
        simp [ht, hg, this, k0, eL]
      · have : ¬ (len k.Entries ≥ 10000) := by unfold len; omega
        simp [ht, hg, this, eL, F13_eq f.rs.1, app_of (l := k.Entries) (m := [r.Entry]) (by simp; omega)]
    · simp [ht, k0, eL]
  · have e1 : fwrap .i64 (fwrap .i64 (r.Index - k.Snap.Index) - 1) = r.Index - k.Snap.Index - 1 := by
      rw [fwrap_i64 (x := r.Index - k.Snap.Index) (by omega) (by omega), fwrap_i64 (by omega) (by omega)]
    simp only [h, bd, e1]
    by_cases h1 : r.Index ≤ k.Snap.Index
    · simp [h1, k0]
    · by_cases h2 : lastK k < r.Index
      · simp [h1, h2, k0]
      · rw [sli_take (by omega) (by unfold lastK at h2; omega)]
        simp [h1, h2]
  · have e1 : fwrap .i64 (fwrap .i64 (r.Snap.Index - k.Snap.Index) - 1) = r.Snap.Index - k.Snap.Index - 1 := by
      rw [fwrap_i64 (x := r.Snap.Index - k.Snap.Index) (by omega) (by omega), fwrap_i64 (by omega) (by omega)]
    have e2 : fwrap .i64 (r.Snap.Index - k.Snap.Index - 1 + 1) = r.Snap.Index - k.Snap.Index - 1 + 1 := fwrap_i64 (by omega) (by omega)
    simp only [h, bd, e1, e2]
    by_cases h1 : r.Snap.Index ≤ k.Snap.Index
    · simp [h1, k0]
    · rw [idx_get (by omega), F12_eq f.rs.2]
      have hd0 : 0 ≤ r.Snap.Index - k.Snap.Index - 1 := by omega
      generalize r.Snap.Index - k.Snap.Index - 1 = d at hd0
      by_cases h2 : d < len k.Entries
      · have hlt : d.toNat < k.Entries.length := by unfold len at h2; omega
        rw [sli_drop (by omega) (by unfold len at h2; omega)]
        have hg := List.getElem?_eq_getElem hlt
        rw [hg]
        generalize k.Entries[d.toNat] = e
        by_cases h3 : e.Term = r.Snap.Term
        · simp [h1, h2, h3]
        · simp [h1, h2, h3]
      · have hlt : k.Entries.length ≤ d.toNat := by unfold len at h2; omega
        rw [List.getElem?_eq_none hlt]
        simp [h1, h2]
theorem F15_eq {k : Kept} {r : Record} (f : Fit k r) (h2 : r.rcd.e' = 0) (h3 : bareB r = true) : F15 k r = some (stepB k r) := by
  have hs0 := f.s0; have hs1 := f.s1; have hl := f.l; have hi0 := f.i0; have hi1 := f.i1; have hn0 := f.n0; have hn1 := f.n1
  unfold F15 F30
  simp only [jn]
  rw [F34_eq f.rs, h3]
  simp only [Option.bind_some, h2, cond_true]
  have e33 : ∀ e, F33 true e = some (.ret ()) := fun e => rfl
  have e33' : ∀ e, F33 false e = some (.pan e) := fun e => rfl
  have e33d : ∀ (p : Prop) [Decidable p] e, F33 (decide p) e = if p then some (.ret ()) else some (.pan e) := fun p _ e => by by_cases hp : p <;> simp [hp, e33, e33']
  have eL : fwrap .i64 (lastK k + 1) = lastK k + 1 := by unfold lastK; rw [fwrap_i64 (by omega) (by omega)]
  have e0' : ((0 : Int) == 0) = true := rfl
  simp only [e0', e33, Option.bind_some, prE]
  unfold stepB
  rcases f.kd with h | h | h | h
  · simp only [h, bd, F35, e33d]
    by_cases ht : r.Term < k.Term
    · have : ¬ r.Term ≥ k.Term := by omega
      simp [ht, this, k0, prE]
    · have : r.Term ≥ k.Term := by omega
      simp [ht, this, prE]
  · simp only [h, bd, F36, F50, last_eq f, Option.bind_some, e33d, eL]
    by_cases ht : r.Entry.Index = lastK k + 1
    · by_cases hg : 10000 ≤ k.Entries.length
      · have : ¬ (len k.Entries < 10000) := by unfold len; omega
        simp [ht, hg, this, k0, prE]
      · have : (len k.Entries < 10000) := by unfold len; omega
        simp [ht, hg, this, prE, F40_eq f.rs.1, app_of (l := k.Entries) (m := [r.Entry]) (by simp; omega)]
    · simp [ht, k0, prE]
  · have e1 : fwrap .i64 (fwrap .i64 (r.Index - k.Snap.Index) - 1) = r.Index - k.Snap.Index - 1 := by
      rw [fwrap_i64 (x := r.Index - k.Snap.Index) (by omega) (by omega), fwrap_i64 (by omega) (by omega)]
    simp only [h, bd, F37, F50, last_eq f, Option.bind_some, e33d, e33', e1, jn]
    by_cases h1 : r.Index ≤ k.Snap.Index
    · have : ¬ r.Index > k.Snap.Index := by omega
      simp [h1, this, k0, prE]
    · have h1' : r.Index > k.Snap.Index := by omega
      by_cases h2 : lastK k < r.Index
      · have : ¬ r.Index ≤ lastK k := by omega
        simp [h1, h1', h2, this, k0, prE]
      · have : r.Index ≤ lastK k := by omega
        rw [sli_take (by omega) (by unfold lastK at h2; omega)]
        simp [h1, h1', h2, this, prE]
  · have e1 : fwrap .i64 (fwrap .i64 (r.Snap.Index - k.Snap.Index) - 1) = r.Snap.Index - k.Snap.Index - 1 := by
      rw [fwrap_i64 (x := r.Snap.Index - k.Snap.Index) (by omega) (by omega), fwrap_i64 (by omega) (by omega)]
    have e2 : fwrap .i64 (r.Snap.Index - k.Snap.Index - 1 + 1) = r.Snap.Index - k.Snap.Index - 1 + 1 := fwrap_i64 (by omega) (by omega)
    simp only [h, bd, F38, Option.bind_some, e33d, e1, e2, jn]
    by_cases h1 : r.Snap.Index ≤ k.Snap.Index
    · have : ¬ r.Snap.Index > k.Snap.Index := by omega
      simp [h1, this, k0, prE]
    · have h1' : r.Snap.Index > k.Snap.Index := by omega
      rw [idx_get (by omega), F39_eq f.rs.2]
      have hd0 : 0 ≤ r.Snap.Index - k.Snap.Index - 1 := by omega
      generalize r.Snap.Index - k.Snap.Index - 1 = d at hd0
      by_cases h2 : d < len k.Entries
      · have hlt : d.toNat < k.Entries.length := by unfold len at h2; omega
        rw [sli_drop (by omega) (by unfold len at h2; omega)]
        have hg := List.getElem?_eq_getElem hlt
        rw [hg]
        generalize k.Entries[d.toNat] = e
        by_cases h3 : e.Term = r.Snap.Term
        · simp [h1, h1', h2, h3, prE]
        · simp [h1, h1', h2, h3, prE]
      · have hlt : k.Entries.length ≤ d.toNat := by unfold len at h2; omega
        rw [List.getElem?_eq_none hlt]
        simp [h1, h1', h2, prE]
theorem F15_no {k : Kept} {r : Record} (hr : r.small) (h : ¬ (r.rcd.e' = 0 ∧ bareB r = true)) : F15 k r = some (k0, 140) := by
  unfold F15 F30
  simp only [jn]
  rw [F34_eq hr]
  simp only [Option.bind_some]
  cases hb : bareB r with
  | false => rfl
  | true =>
    have hne : (r.rcd.e' == 0) = false := by
      rw [bd, decide_eq_false_iff_not]
      exact fun he => h ⟨he, hb⟩
    rw [hne]
    rfl
/-- What a record makes of what is kept. -/
def foldB (k : Kept) (r : Record) : Kept × Int := if rightB k = true then (if r.rcd.e' = 0 ∧ bareB r = true then stepB k r else (k0, 140)) else (k0, 1)
theorem F7_eq {k : Kept} {r : Record} (hk : k.small) (hr : r.small) : F7 k r = some (foldB k r) := by
  unfold F7 foldB
  rw [F14_eq hk, F16_eq hk]
  simp only [Option.bind_some]
  by_cases h1 : rightB k = true
  · simp only [h1, Bool.not_true, cond_false, if_true]
    by_cases h2 : r.rcd.e' = 0 ∧ bareB r = true
    · rw [F15_eq (right_fit hk hr h1 h2.1 h2.2) h2.1 h2.2, if_pos h2]
      rfl
    · rw [F15_no hr h2, if_neg h2]
      rfl
  · have : rightB k = false := by simpa using h1
    simp only [this, Bool.not_false, cond_true]
    rfl
theorem F8_eq {k : Kept} {r : Record} (hk : k.small) (hr : r.small) : F8 k r = some (foldB k r) := by
  unfold F8 foldB
  rw [F17_eq hk, F19_eq hr]
  simp only [Option.bind_some]
  by_cases h1 : rightB k = true
  · simp only [h1, Bool.not_true, cond_false, if_true]
    by_cases h2 : r.rcd.e' = 0 ∧ bareB r = true
    · rw [F20_eq (right_fit hk hr h1 h2.1 h2.2), if_pos h2, h2.1, h2.2]
      rfl
    · rw [if_neg h2]
      have : ((r.rcd.e' == 0) && bareB r) = false := by
        rw [← Bool.not_eq_true, Bool.and_eq_true, bd, decide_eq_true_eq]
        exact h2
      rw [this]
      rfl
  · have : rightB k = false := by simpa using h1
    simp only [this, Bool.not_false, cond_true]
    rfl
end Go.Eng.Try

/- STABLE: what the printed functions compute, plainly: how large, what is right stays right. -/
set_option linter.unusedVariables false
set_option linter.unusedSimpArgs false
namespace Go.Eng.Try
open Go Go.Proofs Go.Eng

/-- No longer than any machine's list. -/
def Config.big (c : Config) : Prop := c.Voters.length ≤ 140737488355328 ∧ c.Learners.length ≤ 140737488355328
def Kept.big (k : Kept) : Prop := k.Snap.Config.big ∧ k.Snap.Data.length ≤ 140737488355328 ∧ k.Entries.length ≤ 140737488355328 ∧ ∀ e ∈ k.Entries, e.Config.big ∧ e.Data.length ≤ 140737488355328
def Record.big (r : Record) : Prop := r.Entry.Config.big ∧ r.Entry.Data.length ≤ 140737488355328 ∧ r.Snap.Config.big ∧ r.Snap.Data.length ≤ 140737488355328
def sizeR (r : Record) : Int := 8 + (r.Entry.Data.length : Int) + r.Snap.Data.length + r.Entry.Config.Voters.length + r.Entry.Config.Learners.length + r.Snap.Config.Voters.length + r.Snap.Config.Learners.length
theorem size_le {r : Record} (h : r.big) : 8 ≤ sizeR r ∧ sizeR r ≤ 1125899906842624 := by
  have h1 := h.1.1; have h2 := h.1.2; have h3 := h.2.1; have h4 := h.2.2.1.1; have h5 := h.2.2.1.2; have h6 := h.2.2.2
  unfold sizeR
  omega
theorem F11_eq {r : Record} (h : r.big) : F11 r = some (sizeR r) := by
  have h1 := h.1.1; have h2 := h.1.2; have h3 := h.2.1; have h4 := h.2.2.1.1; have h5 := h.2.2.1.2; have h6 := h.2.2.2
  unfold F11 sizeR len
  rw [fwrap_i64 (x := 8 + _) (by omega) (by omega), fwrap_i64 (x := 8 + _ + _) (by omega) (by omega), fwrap_i64 (x := 8 + _ + _ + _) (by omega) (by omega), fwrap_i64 (x := 8 + _ + _ + _ + _) (by omega) (by omega), fwrap_i64 (x := 8 + _ + _ + _ + _ + _) (by omega) (by omega), fwrap_i64 (by omega) (by omega)]
def er' (e : Entry) : Record := ⟨0, 0, 0, e, 0, s0⟩
def sr' (s : Snapshot) : Record := ⟨0, 0, 0, e0, 0, s⟩
def sumE : List Entry → Int
  | [] => 0
  | e :: l => sizeR (er' e) + sumE l
theorem foldE_sum : ∀ (l : List Entry) (n : Int), (∀ e ∈ l, 8 ≤ sizeR (er' e)) → ∃ m, foldE (ρ := Int ⊕ Bool) (fun (n : Int) e => bif decide (n ≤ 100000) then .inl (n + sizeR (er' e)) else .inr (.inl n)) .inl l n = .inl m ∧ (m ≤ 100000 → n + sumE l = m)
  | [], n, _ => ⟨n, rfl, fun _ => by simp [sumE]⟩
  | e :: l, n, h => by
    simp only [foldE]
    by_cases hn : n ≤ 100000
    · obtain ⟨m, h1, h2⟩ := foldE_sum l (n + sizeR (er' e)) fun x hx => h x (List.mem_cons_of_mem _ hx)
      refine ⟨m, by simp only [decide_eq_true hn, cond_true]; exact h1, fun hm => ?_⟩
      rw [← h2 hm, sumE]
      omega
    · exact ⟨n, by simp only [decide_eq_false hn, cond_false], fun hm => absurd hm hn⟩
theorem F5_eq {k : Kept} {r : Record} (hk : k.big) (hr : r.big) : ∃ m, F5 k r = some (decide (m > 100000)) ∧ (m ≤ 100000 → sizeR r + sizeR (sr' k.Snap) + sumE k.Entries = m) := by
  have hz : Config.big ⟨[], []⟩ := ⟨by simp, by simp⟩
  have hs : (sr' k.Snap).big := ⟨hz, by simp [sr', e0], hk.1, hk.2.1⟩
  have he : ∀ e ∈ k.Entries, (er' e).big := fun e he => ⟨(hk.2.2.2 e he).1, (hk.2.2.2 e he).2, hz, by simp [er', s0]⟩
  have b1 := size_le hr
  have b2 := size_le hs
  have hl := hk.2.2.1
  obtain ⟨m, hm1, hm2⟩ := foldE_sum k.Entries (sizeR r + sizeR (sr' k.Snap)) fun e h => (size_le (he e h)).1
  refine ⟨m, ?_, hm2⟩
  unfold F5
  rw [F11_eq hr, Option.bind_some]
  simp only [jn]
  have e1 : F11 (⟨0, 0, 0, (⟨0, 0, 0, (⟨[], []⟩ : Config), []⟩ : Entry), 0, k.Snap⟩ : Record) = some (sizeR (sr' k.Snap)) := F11_eq hs
  rw [e1, Option.bind_some]
  rw [fwrap_i64 (by omega) (by omega)]
  unfold lp2
  refine (lp_list (fun i (n : Int) => (n, (i : Int))) (fun (n : Int) e => bif decide (n ≤ 100000) then .inl (n + sizeR (er' e)) else .inr (.inl n)) .inl (fun i n => 0 ≤ n ∧ n ≤ 4503599627370496) k.Entries (sizeR r + sizeR (sr' k.Snap)) rfl (by unfold fuel; omega) ?_ ?_ (by omega)).trans ?_
  · intro i n x hx hP
    have hi := lt_of_get hx
    have hxs := size_le (he x (List.mem_of_getElem? hx))
    have h1 : decide ((i : Int) < len k.Entries) = true := by unfold len; exact decide_eq_true (by omega)
    have e2 : F11 (⟨0, 0, 0, x, 0, (⟨0, 0, (⟨[], []⟩ : Config), []⟩ : Snapshot)⟩ : Record) = some (sizeR (er' x)) := F11_eq (he x (List.mem_of_getElem? hx))
    simp only [h1, cond_true, idx_of hx, Option.bind_some, e2]
    by_cases hn : n ≤ 100000
    · simp only [decide_eq_true hn, cond_true, nxE]
      rw [fwrap_i64 (x := n + _) (by omega) (by omega), fwrap_i64 (by omega) (by omega)]
      exact ⟨by first | trivial | rfl, fun a' h => by cases h; omega⟩
    · simp only [decide_eq_false hn, cond_false, nxE]
      exact ⟨by first | trivial | rfl, fun a' h => by cases h⟩
  · intro n hP
    have h1 : decide ((k.Entries.length : Int) < len k.Entries) = false := by unfold len; exact decide_eq_false (by omega)
    simp only [h1, cond_false]
  · rw [hm1]
    rfl
theorem sumE_le : ∀ {l : List Entry} {n : Int}, sumE l ≤ n → 8 * (l.length : Int) ≤ n ∧ ∀ e ∈ l, (e.Config.Voters.length : Int) ≤ n ∧ (e.Config.Learners.length : Int) ≤ n
  | [], n, h => ⟨by simpa [sumE] using h, fun e he => by simp at he⟩
  | e :: l, n, h => by
    have hp : ∀ l : List Entry, 0 ≤ sumE l := fun l => by
      induction l with
      | nil => simp [sumE]
      | cons e l ih => unfold sumE sizeR; omega
    simp only [sumE] at h
    have h0 := hp l
    have h8 : 8 ≤ sizeR (er' e) := by unfold sizeR; omega
    have ih := sumE_le (l := l) (n := n - sizeR (er' e)) (by omega)
    refine ⟨by rw [List.length_cons]; omega, fun x hx => ?_⟩
    rcases List.mem_cons.1 hx with rfl | hx
    · have : sizeR (er' x) ≤ n := by omega
      unfold sizeR er' at this
      simp only at this
      omega
    · have := ih.2 x hx
      omega
theorem small_of {k : Kept} {r : Record} {m : Int} (h : sizeR r + sizeR (sr' k.Snap) + sumE k.Entries = m) (hm : m ≤ 100000) : k.small ∧ r.small := by
  have h8 : 8 ≤ sizeR r := by unfold sizeR; omega
  have h8' : 8 ≤ sizeR (sr' k.Snap) := by unfold sizeR; omega
  have hp : ∀ l : List Entry, 0 ≤ sumE l := fun l => by
    induction l with
    | nil => simp [sumE]
    | cons e l ih => unfold sumE sizeR; omega
  have h0 := hp k.Entries
  have hl := sumE_le (l := k.Entries) (n := 100000) (by omega)
  have hr : sizeR r ≤ 100000 := by omega
  have hs : sizeR (sr' k.Snap) ≤ 100000 := by omega
  unfold sizeR at hr hs
  simp only [sr'] at hs
  refine ⟨⟨⟨by omega, by omega⟩, by omega, fun e he => ?_⟩, ⟨by omega, by omega⟩, by omega, by omega⟩
  have := hl.2 e he
  exact ⟨by omega, by omega⟩

/-! What V, E(1), E(2), a cut and E(3) make. -/
theorem F10_eq : F10 = some true := by
  have hz : Config.small ⟨[], []⟩ := ⟨by simp, by simp⟩
  have a1 : F7 k0 ⟨1, 2, 1, e0, 0, s0⟩ = some (⟨2, 1, s0, []⟩, 0) := by
    rw [F7_eq ⟨hz, by decide, fun e he => by simp [k0] at he⟩ ⟨hz, hz⟩]
    rfl
  have a2 : F7 ⟨2, 1, s0, []⟩ ⟨2, 0, 0, ⟨1, 2, 1, c0, []⟩, 0, s0⟩ = some (⟨2, 1, s0, [⟨1, 2, 1, c0, []⟩]⟩, 0) := by
    rw [F7_eq ⟨hz, by decide, fun e he => by simp at he⟩ ⟨hz, hz⟩]
    rfl
  have a3 : F7 ⟨2, 1, s0, [⟨1, 2, 1, c0, []⟩]⟩ ⟨2, 0, 0, ⟨2, 2, 1, c0, []⟩, 0, s0⟩ = some (⟨2, 1, s0, [⟨1, 2, 1, c0, []⟩, ⟨2, 2, 1, c0, []⟩]⟩, 0) := by
    rw [F7_eq ⟨hz, by decide, fun e he => by simp at he; subst he; exact hz⟩ ⟨hz, hz⟩]
    rfl
  have a4 : F7 ⟨2, 1, s0, [⟨1, 2, 1, c0, []⟩, ⟨2, 2, 1, c0, []⟩]⟩ ⟨3, 0, 0, e0, 2, s0⟩ = some (⟨2, 1, s0, [⟨1, 2, 1, c0, []⟩]⟩, 0) := by
    rw [F7_eq ⟨hz, by decide, fun e he => by simp at he; rcases he with rfl | rfl <;> exact hz⟩ ⟨hz, hz⟩]
    rfl
  have a5 : F7 ⟨2, 1, s0, [⟨1, 2, 1, c0, []⟩]⟩ ⟨2, 0, 0, ⟨3, 2, 1, c0, []⟩, 0, s0⟩ = some (k0, 140) := by
    rw [F7_eq ⟨hz, by decide, fun e he => by simp at he; subst he; exact hz⟩ ⟨hz, hz⟩]
    rfl
  unfold F10 F23 F24
  simp only [k0, s0, e0, c0] at a1 a2 a3 a4 a5
  simp only [Option.bind_some, a1, a2, a3, a4, a5, jn]
  rfl
end Go.Eng.Try

/- STABLE: what the printed functions compute, plainly: what is right stays right; the law StableRight. -/
set_option linter.unusedVariables false
set_option linter.unusedSimpArgs false
namespace Go.Eng.Try
open Go Go.Proofs Go.Eng

theorem fine_iff {k : Kept} : fine (recs k) = true ↔ (vr k).rcd.e' = 0 ∧ (k.Snap ≠ s0 → (sr k.Snap).rcd.e' = 0) ∧ ∀ e ∈ k.Entries, (er e).rcd.e' = 0 := by
  unfold fine recs
  rw [List.all_append, List.all_map, Bool.and_eq_true, List.all_eq_true (l := k.Entries)]
  by_cases hs : k.Snap = s0
  · simp [hs]
  · simp [hs, and_assoc]
theorem right_iff {k : Kept} : rightB k = true ↔ k.Entries.length ≤ 10000 ∧ (1 ≤ k.Snap.Index ∨ k.Snap = s0) ∧ numbered k = true ∧ fine (recs k) = true := by
  simp only [rightB, Bool.and_eq_true, Bool.or_eq_true, decide_eq_true_eq, and_assoc]
theorem numbered_iff {k : Kept} (h0 : 0 ≤ k.Snap.Index) (h1 : k.Snap.Index ≤ 1000000000) (hl : k.Entries.length ≤ 10000) : numbered k = true ↔ ∀ (i : Nat) (e : Entry), k.Entries[i]? = some e → e.Index = k.Snap.Index + 1 + (i : Int) := by
  unfold numbered
  rw [allI_iff]
  have key : ∀ (i : Nat) (e : Entry), k.Entries[i]? = some e → ((e.Index == fwrap .i64 (fwrap .i64 (k.Snap.Index + 1) + ((0 + i : Nat) : Int))) = true ↔ e.Index = k.Snap.Index + 1 + (i : Int)) := fun i e he => by
    have := lt_of_get he
    rw [fwrap_i64 (x := k.Snap.Index + 1) (by omega) (by omega), fwrap_i64 (by omega) (by omega), beq_iff_eq, Nat.zero_add]
  exact ⟨fun h i e he => (key i e he).1 (h i e he), fun h i e he => (key i e he).2 (h i e he)⟩
theorem vr_zero {k : Kept} : (vr k).rcd.e' = 0 ↔ numE k.Term = 0 ∧ numE k.Vote = 0 := by
  rw [rcd_zero]
  have hc : Config.cfg ⟨[], []⟩ = ⟨[], []⟩ := rfl
  have h1 : (Config.cfg ⟨[], []⟩).e = 0 := rfl
  have h2 : textE [] = 0 := rfl
  have h3 : numE 0 = 0 := rfl
  have h4 : numE 1 = 0 := rfl
  simp only [vr, e0, s0, h1, h2, h3, h4, true_and, and_true]
theorem er_zero {e : Entry} : (er e).rcd.e' = 0 ↔ numE e.Index = 0 ∧ numE e.Term = 0 ∧ numE e.Kind = 0 ∧ e.Config.cfg.e = 0 ∧ textE e.Data = 0 := by
  rw [rcd_zero]
  have h1 : (Config.cfg ⟨[], []⟩).e = 0 := rfl
  have h2 : textE [] = 0 := rfl
  have h3 : numE 0 = 0 := rfl
  have h4 : numE 2 = 0 := rfl
  simp only [er, s0, h1, h2, h3, h4, true_and, and_true]
theorem sr_zero {s : Snapshot} : (sr s).rcd.e' = 0 ↔ numE s.Index = 0 ∧ numE s.Term = 0 ∧ s.Config.cfg.e = 0 ∧ textE s.Data = 0 := by
  rw [rcd_zero]
  have h1 : (Config.cfg ⟨[], []⟩).e = 0 := rfl
  have h2 : textE [] = 0 := rfl
  have h3 : numE 0 = 0 := rfl
  have h4 : numE 4 = 0 := rfl
  simp only [sr, e0, h1, h2, h3, h4, true_and, and_true]
theorem stepB_no {k : Kept} {r : Record} (h : (stepB k r).2 ≠ 0) : (stepB k r).1 = k0 := by
  unfold stepB at h ⊢
  split at h
  · rename_i hk; rw [if_pos hk]
    split at h
    · rename_i h1; rw [if_pos h1]
    · exact absurd rfl h
  · rename_i hk; rw [if_neg hk]
    split at h
    · rename_i hk2; rw [if_pos hk2]
      split at h
      · rename_i h1; rw [if_pos h1]
      · rename_i h1; rw [if_neg h1]
        split at h
        · rename_i h2; rw [if_pos h2]
        · exact absurd rfl h
    · rename_i hk2; rw [if_neg hk2]
      split at h
      · rename_i hk3; rw [if_pos hk3]
        split at h
        · rename_i h1; rw [if_pos h1]
        · exact absurd rfl h
      · rename_i hk3; rw [if_neg hk3]
        split at h
        · rename_i h1; rw [if_pos h1]
        · exact absurd rfl h
theorem foldB_no {k : Kept} {r : Record} (h : (foldB k r).2 ≠ 0) : (foldB k r).1 = k0 := by
  unfold foldB at h ⊢
  split at h
  · rename_i h1; rw [if_pos h1]
    split at h
    · rename_i h2; rw [if_pos h2]; exact stepB_no h
    · rename_i h2; rw [if_neg h2]
  · rename_i h1; rw [if_neg h1]
/-- What has come out, and its last number, as the record says. -/
def Out (k : Kept) (r : Record) (x : Kept) : Prop :=
  (r.Kind = 1 ∧ lastK x = lastK k ∧ x.Term = r.Term) ∨ (r.Kind = 2 ∧ lastK x = lastK k + 1) ∨ (r.Kind = 3 ∧ lastK x = r.Index - 1) ∨ (r.Kind = 4 ∧ x.Snap.Index = r.Snap.Index ∧ (lastK x = lastK k ∨ lastK x = r.Snap.Index))
theorem step_right {k : Kept} {r : Record} (f : Fit k r) (h1 : rightB k = true) (h2 : r.rcd.e' = 0) (h0 : (stepB k r).2 = 0) : rightB (stepB k r).1 = true ∧ (stepB k r).1.small ∧ Out k r (stepB k r).1 := by
  have hs0 := f.s0; have hs1 := f.s1; have hl := f.l; have hi0 := f.i0; have hi1 := f.i1; have hn0 := f.n0; have hn1 := f.n1
  obtain ⟨q1, q2, q3, q4⟩ := right_iff.1 h1
  obtain ⟨v1, v2, v3⟩ := fine_iff.1 q4
  have q3' := (numbered_iff hs0 hs1 hl).1 q3
  rw [rcd_zero] at h2
  obtain ⟨z1, z2, z3, z4, z5, z6, z7, z8, z9, z10, z11, z12, z13⟩ := h2
  obtain ⟨ks1, ks2, ks3⟩ := f.ks
  unfold stepB at h0 ⊢
  rcases f.kd with h | h | h | h
  · rw [if_pos h] at h0 ⊢
    split at h0
    · cases h0
    · rename_i ht
      rw [if_neg ht]
      refine ⟨right_iff.2 ⟨q1, q2, q3, fine_iff.2 ⟨vr_zero.2 ⟨z2, z3⟩, v2, v3⟩⟩, ⟨ks1, ks2, ks3⟩, .inl ⟨h, rfl, rfl⟩⟩
  · have hn1 : ¬ r.Kind = 1 := by omega
    rw [if_neg hn1, if_pos h] at h0 ⊢
    split at h0
    · cases h0
    · rename_i ht
      rw [if_neg ht]
      split at h0
      · cases h0
      · rename_i hg
        rw [if_neg hg]
        have ht' : r.Entry.Index = lastK k + 1 := Classical.not_not.1 ht
        have hlen : (k.Entries ++ [r.Entry]).length = k.Entries.length + 1 := by simp
        refine ⟨right_iff.2 ⟨by show (k.Entries ++ [r.Entry]).length ≤ 10000; omega, q2, (numbered_iff (k := ⟨k.Term, k.Vote, k.Snap, k.Entries ++ [r.Entry]⟩) hs0 hs1 (by show (k.Entries ++ [r.Entry]).length ≤ 10000; omega)).2 fun i e he => ?_, fine_iff.2 ⟨v1, v2, fun e he => ?_⟩⟩, ⟨ks1, by show (k.Entries ++ [r.Entry]).length ≤ 100000; omega, fun e he => ?_⟩, .inr (.inl ⟨h, ?_⟩)⟩
        · simp only at he
          rw [List.getElem?_append] at he
          split at he
          · exact q3' i e he
          · rename_i hi
            have hi2 : i = k.Entries.length := by
              have := lt_of_get he
              simp only [List.length_singleton] at this
              omega
            subst hi2
            simp at he
            subst he
            simp only [ht', lastK]
            omega
        · rcases List.mem_append.1 he with he | he
          · exact v3 e he
          · rw [List.mem_singleton.1 he]; exact er_zero.2 ⟨z4, z5, z6, z7, z8⟩
        · rcases List.mem_append.1 he with he | he
          · exact ks3 e he
          · rw [List.mem_singleton.1 he]; exact f.rs.1
        · simp only [lastK, hlen]
          omega
  · have hn1 : ¬ r.Kind = 1 := by omega
    have hn2 : ¬ r.Kind = 2 := by omega
    rw [if_neg hn1, if_neg hn2, if_pos h] at h0 ⊢
    split at h0
    · cases h0
    · rename_i ht
      rw [if_neg ht]
      have hle : (k.Entries.take (r.Index - k.Snap.Index - 1).toNat).length ≤ k.Entries.length := by simp; omega
      refine ⟨right_iff.2 ⟨by show (k.Entries.take _).length ≤ 10000; omega, q2, (numbered_iff (k := ⟨k.Term, k.Vote, k.Snap, k.Entries.take (r.Index - k.Snap.Index - 1).toNat⟩) hs0 hs1 (by show (k.Entries.take _).length ≤ 10000; omega)).2 fun i e he => ?_, fine_iff.2 ⟨v1, v2, fun e he => v3 e (List.mem_of_mem_take he)⟩⟩, ⟨ks1, by show (k.Entries.take _).length ≤ 100000; omega, fun e he => ks3 e (List.mem_of_mem_take he)⟩, .inr (.inr (.inl ⟨h, ?_⟩))⟩
      · simp only at he
        rw [List.getElem?_take] at he
        split at he
        · exact q3' i e he
        · cases he
      · simp only [lastK] at ht ⊢
        rw [List.length_take]
        omega
  · have hn1 : ¬ r.Kind = 1 := by omega
    have hn2 : ¬ r.Kind = 2 := by omega
    have hn3 : ¬ r.Kind = 3 := by omega
    rw [if_neg hn1, if_neg hn2, if_neg hn3] at h0 ⊢
    split at h0
    · cases h0
    · rename_i ht
      rw [if_neg ht]
      have none_case : rightB ⟨k.Term, k.Vote, r.Snap, []⟩ = true ∧ Kept.small ⟨k.Term, k.Vote, r.Snap, []⟩ ∧ Out k r ⟨k.Term, k.Vote, r.Snap, []⟩ :=
        ⟨right_iff.2 ⟨by simp, .inl (by show 1 ≤ r.Snap.Index; omega), rfl, fine_iff.2 ⟨v1, fun _ => sr_zero.2 ⟨z10, z11, z12, z13⟩, fun e he => by simp at he⟩⟩, ⟨f.rs.2, by simp, fun e he => by simp at he⟩, .inr (.inr (.inr ⟨h, rfl, .inr (by simp [lastK])⟩))⟩
      cases hg : k.Entries[(r.Snap.Index - k.Snap.Index - 1).toNat]? with
      | none => exact none_case
      | some e =>
        simp only
        split
        · have hlt := lt_of_get hg
          have hdl : (k.Entries.drop (r.Snap.Index - k.Snap.Index - 1 + 1).toNat).length = k.Entries.length - (r.Snap.Index - k.Snap.Index - 1 + 1).toNat := by simp
          refine ⟨right_iff.2 ⟨by show (k.Entries.drop _).length ≤ 10000; omega, .inl (by show 1 ≤ r.Snap.Index; omega), (numbered_iff (k := ⟨k.Term, k.Vote, r.Snap, k.Entries.drop (r.Snap.Index - k.Snap.Index - 1 + 1).toNat⟩) f.n0 f.n1 (by show (k.Entries.drop _).length ≤ 10000; omega)).2 fun i x hx => ?_, fine_iff.2 ⟨v1, fun _ => sr_zero.2 ⟨z10, z11, z12, z13⟩, fun e he => v3 e (List.mem_of_mem_drop he)⟩⟩, ⟨f.rs.2, by show (k.Entries.drop _).length ≤ 100000; omega, fun e he => ks3 e (List.mem_of_mem_drop he)⟩, .inr (.inr (.inr ⟨h, rfl, .inl ?_⟩))⟩
          · simp only at hx
            rw [List.getElem?_drop] at hx
            rw [q3' _ x hx]
            show k.Snap.Index + 1 + _ = r.Snap.Index + 1 + _
            omega
          · simp only [lastK, hdl]
            omega
        · exact none_case
/-- What is right takes one more vote of its own term. -/
theorem vote_again {x : Kept} (h : rightB x = true) (hs : x.small) : foldB x ⟨1, x.Term, x.Vote, e0, 0, s0⟩ = (x, 0) := by
  have hz : Config.small ⟨[], []⟩ := ⟨by simp, by simp⟩
  obtain ⟨q1, q2, q3, q4⟩ := right_iff.1 h
  obtain ⟨v1, v2, v3⟩ := fine_iff.1 q4
  unfold foldB
  rw [if_pos h, if_pos ⟨v1, rfl⟩]
  unfold stepB
  rw [if_pos rfl, if_neg (by show ¬ x.Term < x.Term; omega)]
theorem F4_eq {k : Kept} {r : Record} (hk : k.big) (hr : r.big) : F4 k r = some true := by
  obtain ⟨m, hm1, hm2⟩ := F5_eq hk hr
  unfold F4
  rw [hm1, Option.bind_some]
  by_cases hm : m > 100000
  · rw [decide_eq_true hm]; rfl
  · rw [decide_eq_false hm]
    obtain ⟨ks, rs⟩ := small_of (hm2 (by omega)) (by omega)
    rw [F7_eq ks rs, F10_eq]
    simp only [cond_false, Option.bind_some, jn, cond_true]
    by_cases h0 : (foldB k r).2 = 0
    · have hn : ((foldB k r).2 != 0) = false := by simp [h0]
      have hf : rightB k = true ∧ r.rcd.e' = 0 ∧ bareB r = true ∧ foldB k r = stepB k r := by
        unfold foldB at h0 ⊢
        split at h0
        · rename_i h1
          split at h0
          · rename_i h2; exact ⟨h1, h2.1, h2.2, by rw [if_pos h1, if_pos h2]⟩
          · cases h0
        · cases h0
      obtain ⟨h1, h2, h3, h4⟩ := hf
      have f := right_fit ks rs h1 h2 h3
      rw [h4] at h0
      obtain ⟨g1, g2, g3⟩ := step_right f h1 h2 h0
      have e7 : F7 (stepB k r).1 ⟨1, (stepB k r).1.Term, (stepB k r).1.Vote, ⟨0, 0, 0, ⟨[], []⟩, []⟩, 0, ⟨0, 0, ⟨[], []⟩, []⟩⟩ = some ((stepB k r).1, 0) := by
        rw [F7_eq g2 ⟨⟨by simp, by simp⟩, ⟨by simp, by simp⟩⟩]
        exact congrArg some (vote_again g1 g2)
      rw [hn, h4, cond_false, e7]
      simp only [Option.bind_some]
      have hxl : fwrap .i64 ((stepB k r).1.Snap.Index + (len (stepB k r).1.Entries)) = lastK (stepB k r).1 := by
        have hx := right_snap g1
        have hx2 := (right_iff.1 g1).1
        unfold lastK len
        rw [fwrap_i64 (by omega) (by omega)]
      have hkl := last_eq f
      rw [hxl, hkl]
      have eL : fwrap .i64 (lastK k + 1) = lastK k + 1 := by
        have := f.s0; have := f.s1; have := f.l
        unfold lastK; rw [fwrap_i64 (by omega) (by omega)]
      have eI : fwrap .i64 (r.Index - 1) = r.Index - 1 := by
        have := f.i0; have := f.i1
        rw [fwrap_i64 (by omega) (by omega)]
      rw [eL, eI]
      rcases g3 with ⟨a1, a2, a3⟩ | ⟨a1, a2⟩ | ⟨a1, a2⟩ | ⟨a1, a2, a3⟩
      · simp [bd, a1, a2, a3]
      · simp [bd, a1, a2]
      · simp [bd, a1, a2]
      · rcases a3 with a3 | a3
        · simp [bd, a1, a2, a3]
        · by_cases a4 : r.Snap.Index = lastK k
          · simp [bd, a1, a2, a3, a4]
          · simp [bd, a1, a2, a3, a4]
    · have hn : ((foldB k r).2 != 0) = true := by simp [h0]
      rw [hn, foldB_no h0]
      rfl
end Go.Eng.Try

/- STABLE: what the printed functions compute, plainly: are two of what is kept the same? -/
set_option linter.unusedVariables false
set_option linter.unusedSimpArgs false
namespace Go.Eng.Try
open Go Go.Proofs Go.Eng

theorem same_all {a b : List Entry} (hl : a.length = b.length) : allI (fun i x => decide (b[i]? = some x)) 0 a = decide (a = b) := by
  rw [Bool.eq_iff_iff, allI_iff, decide_eq_true_eq]
  constructor
  · intro h
    refine List.ext_getElem hl fun i h1 h2 => ?_
    have := h i _ (List.getElem?_eq_getElem h1)
    rw [Nat.zero_add, decide_eq_true_eq, List.getElem?_eq_getElem h2] at this
    exact (Option.some.inj this).symm
  · rintro rfl i x hx
    rw [Nat.zero_add]
    exact decide_eq_true hx
theorem F9_eq {a b : Kept} (h : a.small) : F9 a b = some (decide (a = b)) := by
  obtain ⟨t, v, s, es⟩ := a
  obtain ⟨t', v', s', es'⟩ := b
  have h1 : s.Config.small := h.1
  have h2 : es.length ≤ 100000 := h.2.1
  have h3 : ∀ e ∈ es, e.Config.small := h.2.2
  unfold F9
  simp only [jn]
  rw [F21_eq h1, Option.bind_some]
  have e1 : ((len es) != (len es')) = !decide (es.length = es'.length) := by rw [bne, beq_len]
  simp only [e1, Kept.mk.injEq]
  simp only [bne, bd]
  by_cases ht : t = t'
  · by_cases hv : v = v'
    · by_cases hs : s = s'
      · by_cases hl : es.length = es'.length
        · rw [loop_all (l := es) (p := fun i x => decide (es'[i]? = some x)) (b := false) (by omega) (fun i x hx => by
            have hi := lt_of_get hx
            have hi' : i < es'.length := by omega
            have hg := List.getElem?_eq_getElem hi'
            rw [idx_of hg, Option.bind_some, F22_eq (h3 x (List.mem_of_getElem? hx)), Option.bind_some, hg]
            by_cases hxe : x = es'[i]
            · simp [hxe]
            · have : ¬ es'[i] = x := fun hh => hxe hh.symm
              simp [hxe, this]), same_all hl]
          by_cases he : es = es' <;> simp [ht, hv, hs, hl, he]
        · have he : ¬ es = es' := fun hh => hl (by rw [hh])
          simp [ht, hv, hs, hl, he]
      · simp [ht, hv, hs]
    · simp [ht, hv]
  · simp [ht]
end Go.Eng.Try

/- STABLE: what the printed functions compute, plainly: StableFolds. -/
set_option linter.unusedVariables false
set_option linter.unusedSimpArgs false
namespace Go.Eng.Try
open Go Go.Proofs Go.Eng

theorem foldE_id {α A ρ : Type} {fin : A → ρ} : ∀ (l : List α) (a : A), foldE (fun a _ => .inl a) fin l a = fin a
  | [], _ => rfl
  | _ :: l, a => foldE_id l a
/-- A loop that writes, and tells nothing. -/
theorem loop_voters {β : Type} {E : List Entry} {v : Int} {e : Entry} {K : Int × Bool → Option β} (he : idx E v = some e) (hl : e.Config.Voters.length ≤ 200000) :
    lp1 (fun (v24 : Int) => (idx E v).bind fun x26 => bif (decide (v24 < (len x26.Config.Voters))) then ((idx E v).bind fun x28 => (idx x28.Config.Voters v24).bind fun x30 => some (.inl (fwrap .i64 (v24 + 1)))) else (some (.inr (.inl (v24, (decide (v24 < (len x26.Config.Voters)))))))) 0 K = K (len e.Config.Voters, false) := by
  unfold lp1
  refine (lp_list (fun i (_ : Unit) => (i : Int)) (fun a _ => .inl a) (fun _ => .inl (len e.Config.Voters, false)) (fun _ _ => True) e.Config.Voters () rfl (fuel_lt hl) ?_ ?_ trivial).trans ?_
  · intro i a x hx _
    have hi := lt_of_get hx
    have h1 : decide ((i : Int) < len e.Config.Voters) = true := by unfold len; exact decide_eq_true (by omega)
    simp only [he, Option.bind_some, h1, cond_true, idx_of hx, nxE]
    rw [fwrap_i64 (by omega) (by omega)]
    exact ⟨by first | trivial | rfl, fun _ _ => trivial⟩
  · intro a _
    have h1 : decide ((e.Config.Voters.length : Int) < len e.Config.Voters) = false := by unfold len; exact decide_eq_false (by omega)
    simp only [he, Option.bind_some, h1, cond_false]
    rfl
  · rw [foldE_id]; rfl
theorem fold_small {k : Kept} {r : Record} (ks : k.small) (rs : r.small) : (foldB k r).1.small := by
  have h0 : k0.small := ⟨⟨by simp [k0, s0, c0], by simp [k0, s0, c0]⟩, by simp [k0], fun e he => by simp [k0] at he⟩
  by_cases h : (foldB k r).2 = 0
  · have hf : rightB k = true ∧ r.rcd.e' = 0 ∧ bareB r = true ∧ foldB k r = stepB k r := by
      unfold foldB at h ⊢
      split at h
      · rename_i h1
        split at h
        · rename_i h2; exact ⟨h1, h2.1, h2.2, by rw [if_pos h1, if_pos h2]⟩
        · cases h
      · cases h
    obtain ⟨h1, h2, h3, h4⟩ := hf
    rw [h4] at h ⊢
    exact (step_right (right_fit ks rs h1 h2 h3) h1 h2 h).2.1
  · rw [foldB_no h]; exact h0
theorem loop_skip {α β : Type} {l : List α} {K : Unit → Option β} (b : β) (hl : l.length ≤ 200000) :
    lp1 (fun v : Int => bif (decide (v < (len l))) then ((idx l v).bind fun x => some (.inl (fwrap .i64 (v + 1)))) else (some (.inr (.inl ())))) 0 K = K () := by
  rw [loop_all (p := fun _ _ => true) (b := b) hl (fun i x hx => rfl)]
  rw [(allI_iff (p := fun _ _ => true)).2 (fun _ _ _ => rfl)]
  rfl
theorem F3_eq {k : Kept} {r : Record} (hk : k.big) (hr : r.big) : F3 k r = some true := by
  obtain ⟨m, hm1, hm2⟩ := F5_eq hk hr
  unfold F3
  rw [hm1, Option.bind_some]
  by_cases hm : m > 100000
  · rw [decide_eq_true hm]; rfl
  · rw [decide_eq_false hm]
    obtain ⟨ks, rs⟩ := small_of (hm2 (by omega)) (by omega)
    have fs := fold_small ks rs
    rw [F6_eq ks, F7_eq ks rs]
    simp only [cond_false, Option.bind_some]
    rw [F8_eq ks rs]
    simp only [Option.bind_some, jn]
    rw [F9_eq fs, F10_eq, F9_eq ks]
    generalize foldB k r = x at fs
    obtain ⟨x, e⟩ := x
    simp only at fs
    have hE : x.Entries.length ≤ 200000 := by have := fs.2.1; omega
    have hV : x.Snap.Config.Voters.length ≤ 200000 := by have := fs.1.1; omega
    simp only [beq_self_eq_true, cond_true, Option.bind_some, decide_true]
    rw [loop_all (l := x.Entries) (p := fun _ _ => true) (b := false) hE (fun i x' hx => by
      rw [loop_voters (idx_of hx) (by have := (fs.2.2 x' (List.mem_of_getElem? hx)).1; omega)]
      rfl), (allI_iff (p := fun _ _ => true)).2 (fun _ _ _ => rfl), cond_true, loop_skip false hV]
end Go.Eng.Try

/- STABLE: the arguments of the laws, from their readings. -/
set_option linter.unusedVariables false
set_option linter.unusedSimpArgs false
set_option maxRecDepth 100000
namespace Go.Eng.Try
open Go Go.Proofs Go.Eng Go.ChangeShapes Go.WideShapes Go.RowKit

theorem l2_cons {α β : Type} {R : α → β → Prop} {a : α} {l : List α} {m : List β} (h : L2 R (a :: l) m) : ∃ b m', m = b :: m' ∧ R a b ∧ L2 R l m' := by
  cases m with
  | nil => have := h.1; simp at this
  | cons b m => exact ⟨b, m, rfl, h.2 0 a b rfl rfl, by have := h.1; simpa using this, fun i x y hx hy => h.2 (i + 1) x y (by simpa using hx) (by simpa using hy)⟩
theorem shb_int {b : BV} {k : IntKind} (h : ShB (.int k) b) : ∃ n, b = .int k n ∧ (Lit.int k n).wf = true := by
  cases h with
  | int k n h => exact ⟨n, rfl, h⟩
theorem shb_str {b : BV} (h : ShB .str b) : ∃ s, b = .str s ∧ s.length ≤ reachBytes := by
  cases h with
  | str l h => exact ⟨l, rfl, h⟩
theorem reach_le {n : Nat} (h : n ≤ reachBytes) : n ≤ 140737488355328 := Nat.le_trans h (by decide)
def lfC : List Lf := [.sl [.int .i64], .sl [.int .i64]]
def lfE : List Lf := [.int .i64, .int .i64, .int .i64, .sl [.int .i64], .sl [.int .i64], .str]
def lfS : List Lf := [.int .i64, .int .i64, .sl [.int .i64], .sl [.int .i64], .str]
def lfK : List Lf := [.int .i64, .int .i64, .int .i64, .int .i64, .sl [.int .i64], .sl [.int .i64], .str, .sl lfE]
def lfR : List Lf := [.int .i64, .int .i64, .int .i64, .int .i64, .int .i64, .int .i64, .sl [.int .i64], .sl [.int .i64], .str, .int .i64, .int .i64, .int .i64, .sl [.int .i64], .sl [.int .i64], .str]
theorem Entry.of {bs : List BV} (h : L2 ShB lfE bs) : ∃ x : Entry, bs = x.row ∧ x.Config.big ∧ x.Data.length ≤ 140737488355328 := by
  obtain ⟨b1, _, rfl, h1, h⟩ := l2_cons h
  obtain ⟨b2, _, rfl, h2, h⟩ := l2_cons h
  obtain ⟨b3, _, rfl, h3, h⟩ := l2_cons h
  obtain ⟨b4, _, rfl, h4, h⟩ := l2_cons h
  obtain ⟨b5, _, rfl, h5, h⟩ := l2_cons h
  obtain ⟨b6, _, rfl, h6, h⟩ := l2_cons h
  rw [h.nil_l]
  obtain ⟨i, rfl, _⟩ := shb_int h1
  obtain ⟨t, rfl, _⟩ := shb_int h2
  obtain ⟨k, rfl, _⟩ := shb_int h3
  obtain ⟨v, rfl, v1, _⟩ := shb_ci h4
  obtain ⟨l, rfl, l1, _⟩ := shb_ci h5
  obtain ⟨d, rfl, d1⟩ := shb_str h6
  exact ⟨⟨i, t, k, ⟨v, l⟩, d⟩, rfl, ⟨reach_le v1, reach_le l1⟩, reach_le d1⟩
theorem Kept.of {bs : List BV} (h : L2 ShB lfK bs) : ∃ x : Kept, bs = x.row ∧ x.big := by
  obtain ⟨b1, _, rfl, h1, h⟩ := l2_cons h
  obtain ⟨b2, _, rfl, h2, h⟩ := l2_cons h
  obtain ⟨b3, _, rfl, h3, h⟩ := l2_cons h
  obtain ⟨b4, _, rfl, h4, h⟩ := l2_cons h
  obtain ⟨b5, _, rfl, h5, h⟩ := l2_cons h
  obtain ⟨b6, _, rfl, h6, h⟩ := l2_cons h
  obtain ⟨b7, _, rfl, h7, h⟩ := l2_cons h
  obtain ⟨b8, _, rfl, h8, h⟩ := l2_cons h
  rw [h.nil_l]
  obtain ⟨t, rfl, _⟩ := shb_int h1
  obtain ⟨v, rfl, _⟩ := shb_int h2
  obtain ⟨si, rfl, _⟩ := shb_int h3
  obtain ⟨st, rfl, _⟩ := shb_int h4
  obtain ⟨cv, rfl, v1, _⟩ := shb_ci h5
  obtain ⟨cl, rfl, l1, _⟩ := shb_ci h6
  obtain ⟨d, rfl, d1⟩ := shb_str h7
  obtain ⟨es, rfl, e1, e2⟩ := shb_list (row := Entry.row) (fun bs hb => Entry.of hb) h8
  exact ⟨⟨t, v, ⟨si, st, ⟨cv, cl⟩, d⟩, es⟩, rfl, ⟨reach_le v1, reach_le l1⟩, reach_le d1, reach_le e1, e2⟩
theorem Record.of {bs : List BV} (h : L2 ShB lfR bs) : ∃ x : Record, bs = x.row ∧ x.big := by
  obtain ⟨b1, _, rfl, h1, h⟩ := l2_cons h
  obtain ⟨b2, _, rfl, h2, h⟩ := l2_cons h
  obtain ⟨b3, _, rfl, h3, h⟩ := l2_cons h
  obtain ⟨b4, _, rfl, h4, h⟩ := l2_cons h
  obtain ⟨b5, _, rfl, h5, h⟩ := l2_cons h
  obtain ⟨b6, _, rfl, h6, h⟩ := l2_cons h
  obtain ⟨b7, _, rfl, h7, h⟩ := l2_cons h
  obtain ⟨b8, _, rfl, h8, h⟩ := l2_cons h
  obtain ⟨b9, _, rfl, h9, h⟩ := l2_cons h
  obtain ⟨b10, _, rfl, h10, h⟩ := l2_cons h
  obtain ⟨b11, _, rfl, h11, h⟩ := l2_cons h
  obtain ⟨b12, _, rfl, h12, h⟩ := l2_cons h
  obtain ⟨b13, _, rfl, h13, h⟩ := l2_cons h
  obtain ⟨b14, _, rfl, h14, h⟩ := l2_cons h
  obtain ⟨b15, _, rfl, h15, h⟩ := l2_cons h
  rw [h.nil_l]
  obtain ⟨x1, rfl, _⟩ := shb_int h1
  obtain ⟨x2, rfl, _⟩ := shb_int h2
  obtain ⟨x3, rfl, _⟩ := shb_int h3
  obtain ⟨x4, rfl, _⟩ := shb_int h4
  obtain ⟨x5, rfl, _⟩ := shb_int h5
  obtain ⟨x6, rfl, _⟩ := shb_int h6
  obtain ⟨x7, rfl, y7, _⟩ := shb_ci h7
  obtain ⟨x8, rfl, y8, _⟩ := shb_ci h8
  obtain ⟨x9, rfl, y9⟩ := shb_str h9
  obtain ⟨x10, rfl, _⟩ := shb_int h10
  obtain ⟨x11, rfl, _⟩ := shb_int h11
  obtain ⟨x12, rfl, _⟩ := shb_int h12
  obtain ⟨x13, rfl, y13, _⟩ := shb_ci h13
  obtain ⟨x14, rfl, y14, _⟩ := shb_ci h14
  obtain ⟨x15, rfl, y15⟩ := shb_str h15
  exact ⟨⟨x1, x2, x3, ⟨x4, x5, x6, ⟨x7, x8⟩, x9⟩, x10, ⟨x11, x12, ⟨x13, x14⟩, x15⟩⟩, rfl, ⟨reach_le y7, reach_le y8⟩, reach_le y9, ⟨reach_le y13, reach_le y14⟩, reach_le y15⟩
theorem lf30 : lfs Try.prog 9 30 = some lfK := by kernel_rfl
theorem lf36 : lfs Try.prog 9 36 = some lfR := by kernel_rfl
theorem evl (W0 : World) (B : Nat) : CallOk Try.prog W0 B (evalL tis funs hints) := evalL_sound types_ok mixed funs_ok
/-- A law about what is kept and a record. -/
theorem law_kr {H : Type} {enc : TypeId × Value → H} {f : Nat} {P0 : Nat → Bool} {W : World} {v0 v1 : Value} {d0 d1 : DataW H} {p0 p1 : List MemPlace} {b0 b1 : Nat}
    (hlaw : ∀ (k : Kept) (r : Record), k.big → r.big → CallB (evalL tis funs hints) P0 f [.agg (Kept.cells 1 k), .agg (Record.cells 1 r)] [] (fun r ob => r = .ret (.bool true) ∧ ob = []))
    (u0 : ∃ fs, Try.prog.underlying 30 = some (.struct fs)) (u1 : ∃ fs, Try.prog.underlying 36 = some (.struct fs))
    (h0 : DataW.Trod enc Try.prog W 0 (fun _ => true) true 30 v0 d0 p0) (h1 : DataW.Trod enc Try.prog W 0 (fun _ => true) true 36 v1 d1 p1)
    (k0 : Value.okWide Try.prog W .any b0 30 v0) (k1 : Value.okWide Try.prog W .any b1 36 v1)
    (w0 : ∀ m ∈ d0.weights Try.prog 30, m ≤ reachBytes) (w1 : ∀ m ∈ d1.weights Try.prog 36, m ≤ reachBytes) (hP0 : P0 0 = false := by rfl) :
    Calls Try.prog f #[v0, v1] W fun e W' => e = .returned (.bool true) ∧ Below W.heap.size W W' := by
  obtain ⟨fs0, u0⟩ := u0
  obtain ⟨fs1, u1⟩ := u1
  obtain ⟨as0, a1, a2⟩ := open_struct lf30 u0 k0 h0 w0
  obtain ⟨as1, c1, c2⟩ := open_struct lf36 u1 k1 h1 w1
  obtain ⟨bs0, s1, s2⟩ := toBs a2
  obtain ⟨bs1, t1, t2⟩ := toBs c2
  obtain ⟨k, rfl, hk⟩ := Kept.of s1
  obtain ⟨r, rfl, hr⟩ := Record.of t1
  have hm : Old gh0.om hp0 1 := ⟨by decide, by decide, by decide⟩
  have e0 : VBs gh0 hp0 as0 (Kept.cells 1 k) := s2 gh0 hp0 1 hm
  have e1 : VBs gh0 hp0 as1 (Record.cells 1 r) := t2 gh0 hp0 1 hm
  exact law_calls evl (vs := [v0, v1]) (.cons a1 (.cons c1 .nil)) (.cons (.agg e0.1 e0.2) (.cons (.agg e1.1 e1.2) .nil)) (hlaw k r hk hr) hP0
end Go.Eng.Try

/- For every input that fits, folkmootlaw15.StableFolds returns true, and each argument reads as it read before. Conditions: none. -/
set_option linter.unusedVariables false
namespace Go.Proofs.Ytmddacjemlkhpaa
open Go.ChangeShapes Go.WideShapes Go.RowKit Go.Eng

theorem Try.own : ownKnob Try.prog.godebug = none := by kernel_rfl
theorem Try.laidOut : laidOutB Try.prog = true := by kernel_rfl
theorem Try.u4 : Try.prog.underlying 4 = some .bool := by kernel_rfl
def isStruct : Option TypeDesc → Bool
  | some (.struct _) => true
  | _ => false
theorem struct_of {o : Option TypeDesc} (h : isStruct o = true) : ∃ fs, o = some (.struct fs) := by
  unfold isStruct at h
  split at h
  · exact ⟨_, rfl⟩
  · cases h
theorem Try.u30 : ∃ fs, Try.prog.underlying 30 = some (.struct fs) := struct_of (by kernel_rfl)
theorem Try.u36 : ∃ fs, Try.prog.underlying 36 = some (.struct fs) := struct_of (by kernel_rfl)
theorem Try.rd30 : Try.prog.readableRec 30 = true ∧ 30 < Try.prog.types.size := ⟨by kernel_rfl, of_decide_eq_true (by kernel_rfl)⟩
theorem Try.rd36 : Try.prog.readableRec 36 = true ∧ 36 < Try.prog.types.size := ⟨by kernel_rfl, of_decide_eq_true (by kernel_rfl)⟩
theorem Try.func3 : Try.prog.funcs[3]? = some Try.f3 := by kernel_rfl
theorem Try.params3 : Try.f3.params = #[30, 36] := by kernel_rfl
theorem Try.res3 : Try.f3.resultTypes = #[4] := by kernel_rfl
theorem stableFolds_law (k : Eng.Try.Kept) (r : Eng.Try.Record) (hk : k.big) (hr : r.big) : CallB (evalL Eng.Try.tis Eng.Try.funs Eng.Try.hints) noP 3 [.agg (Eng.Try.Kept.cells 1 k), .agg (Eng.Try.Record.cells 1 r)] [] (fun r ob => r = .ret (.bool true) ∧ ob = []) :=
  Eng.Try.f3_ok k r true (Eng.Try.F3_eq hk hr)

set_option maxRecDepth 100000 in
theorem stableFolds_lifted (os : Os) (started : os.Started) (H : Type) (enc : TypeId × Value → H) :
    ReturnsInHanded {} Try.checked os 3 .any (Rows.stableFoldsSpec.pre6 enc Try.prog Try.f3 Rows.stableFoldsRow.domain false) (Rows.stableFoldsSpec.post enc Try.prog Try.f3 false true false false) := by
  refine returnsInHanded_of_change_sized (C := Try.checked) Try.own started (by kernel_rfl) Try.func3
    (ChangeSpec.witness6 (enc := enc) (C := Try.checked) false ⟨#[], #[.agg #[.int .i64 0, .int .i64 0, .int .i64 0, .int .i64 0, .slice none 0 0, .slice none 0 0, .string "".toUTF8, .slice none 0 0], .agg #[.int .i64 0, .int .i64 0, .int .i64 0, .int .i64 0, .int .i64 0, .int .i64 0, .slice none 0 0, .slice none 0 0, .string "".toUTF8, .int .i64 0, .int .i64 0, .int .i64 0, .slice none 0 0, .slice none 0 0, .string "".toUTF8]], []⟩ 8 (by kernel_rfl) (by kernel_rfl) (by kernel_rfl) (by kernel_rfl)) ?_
  intro W base args ds gs before hval0 hW _ hsz _
  have hval : ∀ (j : Nat) t v, Try.f3.params[j]? = some t → args[j]? = some v → Value.okWide Try.prog W .any base t v := hval0
  have hW' : DataW.Whole enc Try.prog Try.f3.params.toList Rows.stableFoldsSpec.vars false W args.toList ds gs before := hW
  obtain ⟨p, q, hA0, hV, rfl, _, _⟩ := hW
  have hA : DataW.TrodAll enc Try.prog W 0 (fun _ => true) true Try.f3.params.toList args.toList ds p := hA0
  have hsz' : (DataW.weightsEach Try.prog (Try.f3.params.toList ++ Rows.stableFoldsSpec.plain.varTypes Try.prog) (ds ++ gs)).all (· ≤ reachBytes) = true := hsz
  rw [Try.params3] at hA hval hsz'
  obtain ⟨v0, v1, d0, d1, p0, p1, rfl, rfl, rfl, h0, h1⟩ := trodAll_two hA
  obtain ⟨rfl, rfl⟩ := trodVars_none hV
  have ws : ∀ m ∈ DataW.weightsEach Try.prog (#[30, 36].toList ++ Rows.stableFoldsSpec.plain.varTypes Try.prog) ([d0, d1] ++ []), m ≤ reachBytes := fun m hm => by simpa using List.all_eq_true.1 hsz' m hm
  refine (Eng.Try.law_kr (enc := enc) (f := 3) stableFolds_law Try.u30 Try.u36 h0 h1 (hval 0 30 v0 rfl rfl) (hval 1 36 v1 rfl rfl) (fun m hm => ws m (DataW.weights_mem_each (j := 0) rfl rfl m hm)) (fun m hm => ws m (DataW.weights_mem_each (j := 1) rfl rfl m hm))).mono fun e W' ⟨he, hb⟩ => ?_
  subst he
  refine ⟨_, rfl, law_post Try.laidOut (fun t ht => ?_) hW' rfl Try.res3 Try.u4 rfl hb⟩
  rw [Try.params3] at ht
  have ht' : t = 30 ∨ t = 36 := by simpa using ht
  rcases ht' with rfl | rfl
  · exact Try.rd30
  · exact Try.rd36

theorem stableFolds_holds : Rows.StableFoldsSaid :=
  OpenClaim.holds_of_wide 3 Try.f3 rfl rfl rfl rfl rfl rfl rfl ⟨rfl, rfl, rfl, rfl, rfl⟩ rfl rfl rfl rfl rfl (by kernel_rfl) Try.func3 (by kernel_rfl)
    (of_decide_eq_true (by kernel_rfl)) (by unfold Func.isWrapper; rw [if_neg (of_decide_eq_false (by kernel_rfl))]; exact ⟨rfl, rfl⟩)
    (fun os started H enc _ => stableFolds_lifted os started H enc)
#print axioms stableFolds_holds
end Go.Proofs.Ytmddacjemlkhpaa
