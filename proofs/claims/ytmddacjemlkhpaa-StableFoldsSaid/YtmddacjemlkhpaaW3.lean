/- Texts E35 to E48 of this proof, in one. -/
import Derived.Test.YtmddacjemlkhpaaW2
/- ENGINE 35: states over values of the second kind; what an operation that only reads yields. -/
set_option linter.unusedVariables false
set_option linter.unusedSimpArgs false
namespace Go.Eng
open Go

inductive BSlot where
  | v (x : BV)
  | lr (t off : Nat)
  | none
  deriving Inhabited
def lkp {α : Type} : List (Nat × α) → Nat → Option α
  | [], _ => none
  | (a, s) :: l, t => bif Nat.beq a t then some s else lkp l t
def setp {α : Type} : List (Nat × α) → Nat → α → List (Nat × α)
  | [], t, c => [(t, c)]
  | (a, s) :: l, t, c => bif Nat.beq a t then (a, c) :: l else (a, s) :: setp l t c
structure BS where
  sl : List (Nat × BSlot)
  env : List (Nat × BSlot)
  lo : List (Nat × List BV)
  ob : List (Nat × List BV)
  df : List (Nat × List BV)

inductive SlotB (G : Gh) (h : Hp) : Slot → BSlot → Prop
  | v {a b} (hv : VB G h a b) : SlotB G h (.v a) (.v b)
  | lr {t o} : SlotB G h (.lr t o) (.lr t o)
  | nv {a} : SlotB G h (.v a) .none
  | nn : SlotB G h .none .none
/-- Where an object lies, and what is there. -/
def ObX (G : Gh) (h : Hp) (t : Nat) (c : List BV) : Prop := ∃ a b k ca, G.pi t = some (a, b) ∧ a < h.n ∧ h.get a = some k ∧ G.om a = tg t ∧ partG k.cells b c.length = some ca ∧ VBs G h ca c
/-- From 128 on: a list's rows, which may be none. -/
def ObR (G : Gh) (h : Hp) (t : Nat) (c : List BV) : Prop := (128 ≤ t ∧ c = [] ∧ G.pi t = none) ∨ ObX G h t c
theorem ObR.lo {G : Gh} {h : Hp} {t : Nat} {c : List BV} (o : ObR G h t c) (ht : Nat.blt t 128 = true) : ObX G h t c := by
  rcases o with o | o
  · rw [Nat.blt, Nat.ble_eq] at ht; omega
  · exact o
structure RepB (G : Gh) (s : BS) (r : RS) : Prop where
  env : L2 (fun x y => x.1 = y.1 ∧ SlotB G r.hp x.2 y.2) r.env s.env
  sl : ∀ t y, lkp s.sl t = some y → ∃ x, r.sl[t]? = some x ∧ SlotB G r.hp x y
  lo : ∀ u c, lkp s.lo u = some c → ∃ d, lkc r.lo u = some d ∧ VBs G r.hp d c
  ob : ∀ t c, lkp s.ob t = some c → ObR G r.hp t c
  df : L2 (fun x y => x.1 = y.1 ∧ VBs G r.hp x.2 y.2) r.df s.df

/-! #### Operands -/
def cvs : List AV → Option (List BV)
  | [] => some []
  | a :: l => match (match a with | .nils => some BV.nils | a => scB a), cvs l with
    | some b, some m => some (b :: m)
    | _, _ => none
def cvB : AV → Option BV
  | .nils => some .nils
  | .tup [] => some (.tup [])
  | .agg cs => match cvs cs with | some m => some (.agg m) | none => none
  | a => scB a
def BS.slot (s : BS) : Operand → Option BSlot
  | .tmp t => match lkp s.env t with | some x => some x | none => lkp s.sl t
  | .const v => match ofV v with | some a => (match cvB a with | some b => some (.v b) | none => none) | none => none
  | .func f => some (.v (.fn f []))
  | .global _ => none
def BS.val (s : BS) (x : Operand) : Option BV := match s.slot x with | some (.v y) => some y | _ => none
def BV.isE : BV → Bool
  | .ls [] _ _ _ => true
  | _ => false
def fixAgg : List BV → List BV → List BV
  | c :: l, z :: m => (match c with | .nils => bif z.isE then z else .nils | c => c) :: fixAgg l m
  | l, _ => l
/-- A constant, in the form of its type. -/
def fixN (ZB : Nat → Option (List BV)) (ty : Nat) : BV → Option BV
  | .nils => match ZB ty with | some [z] => bif z.isE then some z else some .nils | _ => some .nils
  | .agg cs => match ZB ty with | some zs => some (.agg (fixAgg cs zs)) | none => some (.agg cs)
  | v => some v
def BS.valT (ZB : Nat → Option (List BV)) (s : BS) (ty : Nat) (x : Operand) : Option BV :=
  match x with
  | .const v => (match s.val (.const v) with | some b => fixN ZB ty b | none => none)
  | x => s.val x
def BS.vals (ZB : Nat → Option (List BV)) (s : BS) : List Operand → List Nat → Option (List BV)
  | [], _ => some []
  | x :: r, t :: ts => match s.valT ZB t x with
    | some v => (match s.vals ZB r ts with | some l => some (v :: l) | none => none)
    | none => none
  | x :: r, [] => match s.val x with
    | some v => (match s.vals ZB r [] with | some l => some (v :: l) | none => none)
    | none => none
def BS.pairs (s : BS) : List (Nat × Operand) → Option (List (Nat × BV))
  | [] => some []
  | (i, x) :: r => match s.val x with
    | some v => (match s.pairs r with | some l => some ((i, v) :: l) | none => none)
    | none => none
def BS.opt (s : BS) : Option Operand → Option (Option BV)
  | none => some none
  | some x => match s.val x with | some v => some (some v) | none => none

section
variable {G : Gh} {T : Nat → Option TI} {ZB : Nat → Option (List BV)} {s : BS} {r : RS} {h : Hp}

theorem VB.isE {b : BV} (hb : b.isE = true) : VB G h .nils b := by
  cases b with
  | ls es sz own m =>
    cases es with
    | nil => exact .lsN
    | cons _ _ => cases hb
  | _ => cases hb
theorem VB.nils_inv {a : AV} (v : VB G h a .nils) : a = .nils := by
  cases v with
  | sc hs => cases a <;> simp [scB] at hs
  | nils => rfl
theorem fixAgg_sound : ∀ {l : List AV} {m z : List BV}, VBs G h l m → VBs G h l (fixAgg m z)
  | l, [], z, hv => by simpa [fixAgg] using hv
  | l, c :: m, [], hv => by simpa [fixAgg] using hv
  | l, c :: m, z :: zs, hv => by
    obtain ⟨a, l', rfl, h1, h2⟩ := hv.cons_r
    simp only [fixAgg]
    refine .cons ?_ (fixAgg_sound h2)
    split
    · cases hz : z.isE with
      | true => simp only [cond_true]; rw [h1.nils_inv]; exact VB.isE hz
      | false => simpa only [cond_false] using h1
    · exact h1
theorem fixN_sound {ty : Nat} {a : AV} {b c : BV} (v : VB G h a b) (hc : fixN ZB ty b = some c) : VB G h a c := by
  unfold fixN at hc
  split at hc
  · split at hc
    · rename_i z _
      cases hz : z.isE with
      | true => rw [hz] at hc; simp only [cond_true, Option.some.injEq] at hc; subst hc; rw [v.nils_inv]; exact VB.isE hz
      | false => rw [hz] at hc; simp only [cond_false, Option.some.injEq] at hc; subst hc; exact v
    · simp only [Option.some.injEq] at hc; subst hc; exact v
  · split at hc
    · simp only [Option.some.injEq] at hc; subst hc
      cases v with
      | sc hs => rename_i x _ _ _; cases a <;> simp [scB] at hs
      | agg hn hr =>
        obtain ⟨q1, q2⟩ := fixAgg_sound (z := _) ⟨hn, hr⟩
        exact .agg q1 q2
    · simp only [Option.some.injEq] at hc; subst hc; exact v
  · simp only [Option.some.injEq] at hc; subst hc; exact v
theorem cvs_sound : ∀ {l : List AV} {m : List BV}, cvs l = some m → VBs G h l m
  | [], m, hc => by simp only [cvs, Option.some.injEq] at hc; subst hc; exact .nil
  | a :: l, m, hc => by
    simp only [cvs] at hc
    split at hc
    · rename_i b m' hb hm
      simp only [Option.some.injEq] at hc
      subst hc
      refine .cons ?_ (cvs_sound hm)
      split at hb
      · simp only [Option.some.injEq] at hb; subst hb; exact .nils
      · exact .sc hb
    · cases hc
theorem cvB_sound {a : AV} {b : BV} (hc : cvB a = some b) : VB G h a b := by
  unfold cvB at hc
  split at hc
  · simp only [Option.some.injEq] at hc; subst hc; exact .nils
  · simp only [Option.some.injEq] at hc; subst hc; exact .tup rfl fun i x y hx => by simp at hx
  · split at hc
    · rename_i m hm
      simp only [Option.some.injEq] at hc; subst hc
      obtain ⟨q1, q2⟩ := cvs_sound (G := G) (h := h) hm
      exact .agg q1 q2
    · cases hc
  · exact .sc hc
theorem env_lk : ∀ {l : List (Nat × Slot)} {m : List (Nat × BSlot)}, L2 (fun x y => x.1 = y.1 ∧ SlotB G h x.2 y.2) l m → ∀ t, (lkp m t = none → lk l t = none) ∧ (∀ y, lkp m t = some y → ∃ x, lk l t = some x ∧ SlotB G h x y)
  | l, [], hl, t => by rw [hl.nil_r]; exact ⟨fun _ => rfl, fun y hy => by simp [lkp] at hy⟩
  | l, (u, b) :: m, hl, t => by
    obtain ⟨⟨u', a⟩, l', rfl, ⟨h1, h2⟩, h3⟩ := hl.cons_r
    simp only at h1 h2
    subst h1
    simp only [lkp, lk]
    cases hu : Nat.beq u' t with
    | true => exact ⟨fun e => by simp at e, fun y hy => by simp only [cond_true, Option.some.injEq] at hy ⊢; subst hy; exact ⟨a, rfl, h2⟩⟩
    | false => simpa only [cond_false] using env_lk h3 t
theorem RepB.slot (hr : RepB G s r) {x : Operand} {y : BSlot} (hs : s.slot x = some y) : ∃ z, r.slot x = some z ∧ SlotB G r.hp z y := by
  cases x with
  | tmp t =>
    simp only [BS.slot, RS.slot] at hs ⊢
    have he := env_lk hr.env t
    split at hs
    · rename_i b hb
      simp only [Option.some.injEq] at hs; subst hs
      obtain ⟨a, h1, h2⟩ := he.2 _ hb
      exact ⟨a, by simp only [h1], h2⟩
    · rename_i hb
      obtain ⟨a, h1, h2⟩ := hr.sl t y hs
      exact ⟨a, by simp only [he.1 hb]; exact h1, h2⟩
  | const v =>
    simp only [BS.slot, RS.slot] at hs ⊢
    split at hs
    · rename_i a ha
      split at hs
      · rename_i b hb
        simp only [Option.some.injEq] at hs; subst hs
        exact ⟨.v a, by rw [ha]; rfl, .v (cvB_sound hb)⟩
      · cases hs
    · cases hs
  | func f =>
    simp only [BS.slot, Option.some.injEq] at hs; subst hs
    exact ⟨_, rfl, .v (.fn rfl fun i x y hx => by simp at hx)⟩
  | global g => cases hs
theorem RepB.val (hr : RepB G s r) {x : Operand} {b : BV} (hs : s.val x = some b) : ∃ a, r.val x = some a ∧ VB G r.hp a b := by
  unfold BS.val at hs
  split at hs
  · rename_i z hz
    simp only [Option.some.injEq] at hs; subst hs
    obtain ⟨w, h1, h2⟩ := hr.slot hz
    cases h2 with
    | v hv => exact ⟨_, by unfold RS.val; rw [h1], hv⟩
  · cases hs
theorem RepB.valT (hr : RepB G s r) {ty : Nat} {x : Operand} {b : BV} (hs : s.valT ZB ty x = some b) : ∃ a, r.val x = some a ∧ VB G r.hp a b := by
  unfold BS.valT at hs
  split at hs
  · split at hs
    · rename_i b' hb
      obtain ⟨a, h1, h2⟩ := hr.val hb
      exact ⟨a, h1, fixN_sound h2 hs⟩
    · cases hs
  · exact hr.val hs
theorem RepB.vals (hr : RepB G s r) : ∀ {xs : List Operand} {ts : List Nat} {l : List BV}, s.vals ZB xs ts = some l → ∃ m, valsV r xs = some m ∧ VBs G r.hp m l
  | [], ts, l, hs => by simp only [BS.vals, Option.some.injEq] at hs; subst hs; exact ⟨[], rfl, .nil⟩
  | x :: xs, t :: ts, l, hs => by
    simp only [BS.vals] at hs
    split at hs
    · rename_i v hv
      split at hs
      · rename_i l' hl
        simp only [Option.some.injEq] at hs; subst hs
        obtain ⟨a, h1, h2⟩ := hr.valT hv
        obtain ⟨m, h3, h4⟩ := hr.vals hl
        exact ⟨a :: m, by simp only [valsV, h1, h3, Option.map_some], .cons h2 h4⟩
      · cases hs
    · cases hs
  | x :: xs, [], l, hs => by
    simp only [BS.vals] at hs
    split at hs
    · rename_i v hv
      split at hs
      · rename_i l' hl
        simp only [Option.some.injEq] at hs; subst hs
        obtain ⟨a, h1, h2⟩ := hr.val hv
        obtain ⟨m, h3, h4⟩ := hr.vals hl
        exact ⟨a :: m, by simp only [valsV, h1, h3, Option.map_some], .cons h2 h4⟩
      · cases hs
    · cases hs
theorem RepB.pairs (hr : RepB G s r) : ∀ {xs : List (Nat × Operand)} {l : List (Nat × BV)}, s.pairs xs = some l → ∃ m, pairsV r xs = some m ∧ L2 (fun x y => x.1 = y.1 ∧ VB G r.hp x.2 y.2) m l
  | [], l, hs => by simp only [BS.pairs, Option.some.injEq] at hs; subst hs; exact ⟨[], rfl, .nil⟩
  | (i, x) :: xs, l, hs => by
    simp only [BS.pairs] at hs
    split at hs
    · rename_i v hv
      split at hs
      · rename_i l' hl
        simp only [Option.some.injEq] at hs; subst hs
        obtain ⟨a, h1, h2⟩ := hr.val hv
        obtain ⟨m, h3, h4⟩ := hr.pairs hl
        exact ⟨(i, a) :: m, by simp only [pairsV, h1, h3, Option.map_some], .cons ⟨rfl, h2⟩ h4⟩
      · cases hs
    · cases hs
theorem RepB.opt (hr : RepB G s r) {x : Option Operand} {w : Option BV} (hs : s.opt x = some w) : ∃ u, optV r x = some u ∧ ((w = none ∧ u = none) ∨ ∃ a b, u = some a ∧ w = some b ∧ VB G r.hp a b) := by
  cases x with
  | none => simp only [BS.opt, Option.some.injEq] at hs; exact ⟨none, rfl, .inl ⟨hs.symm, rfl⟩⟩
  | some x =>
    simp only [BS.opt] at hs
    split at hs
    · rename_i v hv
      simp only [Option.some.injEq] at hs; subst hs
      obtain ⟨a, h1, h2⟩ := hr.val hv
      exact ⟨some a, by simp only [optV, h1, Option.map_some], .inr ⟨a, v, rfl, rfl, h2⟩⟩
    · cases hs
/-- What is the same in both kinds. -/
theorem VB.toA {a a' : AV} {b : BV} (v : VB G h a b) (ht : toA b = some a') : a = a' := by
  rw [toA_iff] at ht
  cases v with
  | sc hs =>
    have := toA_iff.2 hs
    have := toA_iff.2 ht
    simp_all
  | _ => cases a' <;> simp [scB] at ht
theorem VB.int {a : AV} {k : IntKind} {n : Int} (v : VB G h a (.int k n)) : a = .int k n := v.toA rfl
theorem VB.bool {a : AV} {p : Bool} (v : VB G h a (.bool p)) : a = .bool p := v.toA rfl
theorem VB.str {a : AV} {l : List UInt8} (v : VB G h a (.str l)) : a = .str l := v.toA rfl
theorem VB.agg_inv {a : AV} {cs : List BV} (v : VB G h a (.agg cs)) : ∃ as, a = .agg as ∧ VBs G h as cs := by
  cases v with
  | sc hs => cases a <;> simp [scB] at hs
  | agg hn hr => exact ⟨_, rfl, hn, hr⟩
theorem VB.tup_inv {a : AV} {cs : List BV} (v : VB G h a (.tup cs)) : ∃ as, a = .tup as ∧ VBs G h as cs := by
  cases v with
  | sc hs => cases a <;> simp [scB] at hs
  | tup hn hr => exact ⟨_, rfl, hn, hr⟩
theorem VB.fn_inv {a : AV} {f : Nat} {cs : List BV} (v : VB G h a (.fn f cs)) : ∃ as, a = .fn f as ∧ VBs G h as cs := by
  cases v with
  | sc hs => cases a <;> simp [scB] at hs
  | fn hn hr => exact ⟨_, rfl, hn, hr⟩
theorem VB.iface_inv {a : AV} {t : Nat} {c : BV} (v : VB G h a (.iface t c)) : ∃ x, a = .iface t x ∧ VB G h x c := by
  cases v with
  | sc hs => cases a <;> simp [scB] at hs
  | iface hr => exact ⟨_, rfl, hr⟩
theorem VB.ptr_inv {a : AV} {t o : Nat} (v : VB G h a (.ptr t o)) : ∃ x b, a = .ptr x (b + o) ∧ G.pi t = some (x, b) := by
  cases v with
  | sc hs => cases a <;> simp [scB] at hs
  | ptr hp => exact ⟨_, _, rfl, hp⟩
end
end Go.Eng

/- ENGINE 36: operations that only read, over values of the second kind. -/
set_option linter.unusedVariables false
set_option linter.unusedSimpArgs false
namespace Go.Eng
open Go

def BV.withm (m : Nat) : BV → BV
  | .ls es sz _ _ => .ls es sz 0 m
  | v => v
def tagm (own m : Nat) : Nat := bif Nat.beq own 0 then m else m ||| 2 ^ (own - 1)
def BS.rdB (s : BS) (a : BSlot) (n : Nat) : Option (List BV) :=
  match a with
  | .lr t off => match lkp s.lo t with | some c => partG c off n | none => none
  | .v (.ptr t off) => bif Nat.blt t 128 then (match lkp s.ob t with | some c => partG c off n | none => none) else none
  | .v (.ro cs off m) => match partG cs off n with | some l => some (l.map (BV.withm m)) | none => none
  | _ => none
def mkB (ti : TI) (cs : List BV) : Option BV := bif ti.isAgg then some (.agg cs) else match cs with | [c] => some c | _ => none
def addB (a : BSlot) (n : Nat) : Option BSlot :=
  match a with
  | .lr t off => some (.lr t (off + n))
  | .v (.ptr t off) => some (.v (.ptr t (off + n)))
  | .v (.ro c off m) => some (.v (.ro c (off + n) m))
  | _ => none
def isAddrB (a : BSlot) : Bool :=
  match a with
  | .lr _ _ | .v (.ptr _ _) | .v (.ro _ _ _) => true
  | _ => false
def partAB (cs : List BV) (off n : Nat) (ia : Bool) : Option BSlot := bif ia then (match partG cs off n with | some l => some (.v (.agg l)) | none => none) else (match cs[off]? with | some c => some (.v c) | none => none)
def nilqB (k : TK) (a : BV) : Option Bool :=
  match k with
  | .ptr => (match a with | .nilp => some true | .ptr _ _ => some false | .ro _ _ _ => some false | _ => none)
  | .iface => (match a with | .nilif => some true | .iface _ _ => some false | _ => none)
  | .fn => (match a with | .nilfn => some true | .fn _ _ => some false | _ => none)
  | _ => none
def eqnB (k : TK) (x y : Operand) (a b : BV) : Option Bool :=
  match nilqB k a, nilqB k b with
  | some true, some true => (match k with | .iface => bif isC x || isC y then some true else none | _ => some true)
  | some true, some false => some false
  | some false, some true => some false
  | _, _ => none
def up (a : Option AV) : Option BSlot := match a with | some a => (match scB a with | some b => some (.v b) | none => none) | none => none
def idxB (T : Nat → Option TI) (t : Nat) (x : BSlot) (n : Int) : Option BSlot :=
  match T t with
  | some ti => match ti.k with
    | .sl e sz _ _ => match x with
      | .v (.ls es z own m) => (match (if 0 ≤ n then es[n.toNat]? else none) with
        | some row => bif Nat.beq z sz then some (.v (.ro row 0 (tagm own m))) else none
        | none => none)
      | .v (.sl t off len z) => if 0 ≤ n ∧ n < len then (bif Nat.beq z sz then some (.v (.ptr t (off + n.toNat * sz))) else none) else none
      | _ => none
    | .arr len e sz _ => if 0 ≤ n ∧ n < len then addB x (n.toNat * sz) else none
    | _ => none
  | none => none
def boundB (x : Option BV) (dflt most : Nat) : Option Nat :=
  match x with
  | none => some dflt
  | some (.int _ i) => if 0 ≤ i ∧ i ≤ most then some i.toNat else none
  | some _ => none
def sliceB (T : Nat → Option TI) (t : Nat) (x : BV) (lo hi : Option BV) : Option BV :=
  match T t with
  | some ti => match ti.k with
    | .str => match x with
      | .str l => (match boundB hi l.length l.length with
        | some h => (match boundB lo 0 h with
          | some j => some (.str ((l.take h).drop j))
          | none => none)
        | none => none)
      | _ => none
    | .sl e sz _ _ => match x with
      | .ls es z own m => (match boundB hi es.length es.length with
        | some h => (match boundB lo 0 h with
          | some j => bif Nat.beq z sz then some (.ls ((es.take h).drop j) sz own m) else none
          | none => none)
        | none => none)
      | _ => none
    | _ => none
  | none => none
def lenB (T : Nat → Option TI) (t : Nat) (x : BV) : Option Nat :=
  match T t with
  | some ti => match ti.k with
    | .str => (match x with | .str l => some l.length | _ => none)
    | .sl _ _ _ _ => (match x with | .ls es _ _ _ => some es.length | .sl _ _ n _ => some n | _ => none)
    | _ => none
  | none => none
def zEq1 : AV → BV → Bool
  | .bool a, .bool b => a == b
  | .int a b, .int c d => a == c && b == d
  | .str a, .str b => a == b
  | .nilp, .nilp => true
  | .nilfn, .nilfn => true
  | .nilif, .nilif => true
  | .nils, b => b.isE
  | _, _ => false
def zEq : List AV → List BV → Bool
  | [], [] => true
  | a :: l, b :: m => zEq1 a b && zEq l m
  | _, _ => false
def isEAt (cs : List BV) (off : Nat) : Bool := match cs[off]? with | some z => z.isE | none => false
def fillB (place : Nat → Option (Nat × Nat)) (cells : List BV) : List (Nat × BV) → Option (List BV)
  | [] => some cells
  | (i, v) :: r => match place i with
    | none => none
    | some (off, n) => match v with
      | .nils => bif Nat.beq n 1 && isEAt cells off then fillB place cells r else none
      | v => bif Nat.beq v.cells.length n && v.cells.all BV.one then (match wrG cells off v.cells with | some c => fillB place c r | none => none) else none
def buildB (T : Nat → Option TI) (ZB : Nat → Option (List BV)) (t : Nat) (ps : List (Nat × BV)) : Option BV :=
  match T t, ZB t with
  | some ti, some zb => match ti.k with
    | .agg fs => bif zEq ti.zero zb then (match fillB (fun i => match fs[i]? with | some (a, b, _) => some (a, b) | none => none) zb ps with | some c => some (.agg c) | none => none) else none
    | _ => none
  | _, _ => none

/-- What a reading operation yields. -/
def ropB (T : Nat → Option TI) (ZB : Nat → Option (List BV)) (s : BS) (ty : Nat) (op : Op) : Option BSlot :=
  match op with
  | .move x | .assign x => (match s.valT ZB ty x with | some v => some (.v v) | none => none)
  | .pick c a b => (match s.val c with
    | some (.bool true) => (match s.valT ZB ty a with | some v => some (.v v) | none => none)
    | some (.bool false) => (match s.valT ZB ty b with | some v => some (.v v) | none => none)
    | _ => none)
  | .load t a => (match T t, s.slot a with
    | some ti, some x => (match s.rdB x ti.size with | some cs => (match mkB ti cs with | some v => some (.v v) | none => none) | none => none)
    | _, _ => none)
  | .nilCheck x => (match s.slot x with | some a => bif isAddrB a then some a else none | none => none)
  | .binOp op t x y _ => (match s.val x, s.val y with
    | some a, some b => (match toA a, toA b with
      | some a', some b' => up (binF T op t x y a' b')
      | _, _ => (match T t with
        | some ti => (match op with
          | .eql => (match eqnB ti.k x y a b with | some c => some (.v (.bool c)) | none => none)
          | .neq => (match eqnB ti.k x y a b with | some c => some (.v (.bool (!c))) | none => none)
          | _ => none)
        | none => none))
    | _, _ => none)
  | .unOp .not _ x => (match s.val x with | some (.bool b) => some (.v (.bool (!b))) | _ => none)
  | .unOp .neg _ x => (match s.val x with | some (.int k n) => some (.v (.int k (fwrap k (0 - n)))) | _ => none)
  | .convert a b x => (match s.val x with | some v => (match toA v with | some v' => up (convF T a b v') | none => none) | none => none)
  | .fieldAddr t x f => (match T t, s.slot x with
    | some ti, some a => (match ti.k with
      | .agg fs => (match fs[f]? with | some (off, n, _) => bif Nat.beq n 0 then none else addB a off | none => none)
      | _ => none)
    | _, _ => none)
  | .field t x f => (match T t, s.val x with
    | some ti, some (.agg cs) => (match ti.k with
      | .agg fs => (match fs[f]? with | some (off, n, ia) => partAB cs off n ia | none => none)
      | _ => none)
    | _, _ => none)
  | .indexAddr t x i => (match s.slot x, s.val i with | some a, some (.int _ n) => idxB T t a n | _, _ => none)
  | .index t x i => (match T t, s.val x, s.val i with
    | some ti, some (.str l), some (.int _ n) => (match ti.k with
      | .str => (match (if 0 ≤ n then l[n.toNat]? else none) with | some b => some (.v (.int .u8 b.toNat)) | none => none)
      | _ => none)
    | some ti, some (.agg cs), some (.int _ n) => (match ti.k with
      | .arr len _ sz ia => if 0 ≤ n ∧ n < len then partAB cs (n.toNat * sz) sz ia else none
      | _ => none)
    | _, _, _ => none)
  | .slice t x lo hi none => (match s.val x, s.opt lo, s.opt hi with
    | some v, some l, some h => (match sliceB T t v l h with | some v => some (.v v) | none => none)
    | _, _, _ => none)
  | .extract x i => (match s.val x with | some (.tup vs) => (match vs[i]? with | some v => some (.v v) | none => none) | _ => none)
  | .makeInterface t x => (match T t, s.val x with
    | some ti, some v => (match ti.k with | .iface => none | _ => some (.v (.iface t v)))
    | _, _ => none)
  | .makeFunc (.func f) first cap => (match first.toList, s.vals ZB cap.toList [] with | [], some c => some (.v (.fn f c)) | _, _ => none)
  | .build t ps => (match s.pairs ps.toList with | some l => (match buildB T ZB t l with | some v => some (.v v) | none => none) | none => none)
  | .typeAssert x _ t ok => (match s.val x, T t with
    | some (.iface u v), some ti => (match ti.k with
      | .iface => none
      | _ => bif Nat.beq u t then (bif ok then some (.v (.tup [v, .bool true])) else some (.v v)) else none)
    | _, _ => none)
  | .call ⟨.builtin .len, args, ts⟩ => (match args.toList, ts.toList with
    | [x], [t] => (match s.val x with | some v => (match lenB T t v with | some n => some (.v (.int .i64 (n : Int))) | none => none) | none => none)
    | _, _ => none)
  | .call ⟨.builtin .min, args, _⟩ => (match args.toList with
    | [x, y] => (match s.val x, s.val y with
      | some a, some b => (match toA a, toA b with | some a', some b' => up (minmax true [a', b']) | _, _ => none)
      | _, _ => none)
    | _ => none)
  | .call ⟨.builtin .max, args, _⟩ => (match args.toList with
    | [x, y] => (match s.val x, s.val y with
      | some a, some b => (match toA a, toA b with | some a', some b' => up (minmax false [a', b']) | _, _ => none)
      | _, _ => none)
    | _ => none)
  | _ => none

section
variable {G : Gh} {T : Nat → Option TI} {ZB : Nat → Option (List BV)} {s : BS} {r : RS} {h : Hp}

theorem flat_lenG {α : Type} (sz : Nat) : ∀ es : List (List α), (∀ e ∈ es, e.length = sz) → es.flatten.length = es.length * sz
  | [], _ => by simp
  | a :: l, he => by
    rw [List.flatten_cons, List.length_append, flat_lenG sz l fun e h => he e (by simp [h]), he a (by simp), List.length_cons, Nat.succ_mul]
    omega
theorem flat_take {α : Type} (sz : Nat) : ∀ (es : List (List α)) (n : Nat), (∀ e ∈ es, e.length = sz) → (es.take n).flatten = es.flatten.take (n * sz)
  | [], n, _ => by simp
  | a :: l, 0, _ => by simp
  | a :: l, n + 1, he => by
    have := he a (by simp)
    have e1 : a.take (n * sz + sz) = a := List.take_of_length_le (by omega)
    have e2 : n * sz + sz - a.length = n * sz := by omega
    rw [List.take_succ_cons, List.flatten_cons, List.flatten_cons, flat_take sz l n fun e h => he e (by simp [h]), Nat.succ_mul, List.take_append, e1, e2]
theorem flat_drop {α : Type} (sz : Nat) : ∀ (es : List (List α)) (n : Nat), (∀ e ∈ es, e.length = sz) → (es.drop n).flatten = es.flatten.drop (n * sz)
  | [], n, _ => by simp
  | a :: l, 0, _ => by simp
  | a :: l, n + 1, he => by
    have := he a (by simp)
    have e1 : a.drop (n * sz + sz) = [] := List.drop_eq_nil_of_le (by omega)
    have e2 : n * sz + sz - a.length = n * sz := by omega
    rw [List.drop_succ_cons, List.flatten_cons, flat_drop sz l n fun e h => he e (by simp [h]), Nat.succ_mul, List.drop_append, e1, e2, List.nil_append]
theorem flat_part {α : Type} (sz : Nat) : ∀ (es : List (List α)) (i : Nat) (row : List α), (∀ e ∈ es, e.length = sz) → es[i]? = some row → (es.flatten.drop (i * sz)).take sz = row
  | a :: l, 0, row, he, hi => by
    have := he a (by simp)
    simp only [List.getElem?_cons_zero, Option.some.injEq] at hi
    subst hi
    rw [Nat.zero_mul, List.drop_zero, List.flatten_cons, List.take_append_of_le_length (by omega), List.take_of_length_le (by omega)]
  | a :: l, i + 1, row, he, hi => by
    have := he a (by simp)
    have e1 : a.drop (i * sz + sz) = [] := List.drop_eq_nil_of_le (by omega)
    have e2 : i * sz + sz - a.length = i * sz := by omega
    rw [List.flatten_cons, Nat.succ_mul, List.drop_append, e1, e2, List.nil_append]
    exact flat_part sz l i row (fun e h => he e (by simp [h])) (by simpa using hi)

theorem VN.top {om : Nat → Nat} {E : Nat} {a : AV} {b : BV} (v : VN G.om h E a b) : VB G h a (b.withm E) := by
  cases v with
  | sc hs =>
    have : b.withm E = b := by cases a <;> simp [scB] at hs <;> subst hs <;> rfl
    rw [this]; exact .sc hs
  | ai => exact .ai
  | sx => exact .sx
  | lsN => exact .lsN
  | lsA ha hk hm hl hs hp hn hr => exact .lsA ha hk hm.1 (fun _ => hm.2) (fun h => absurd rfl h) hl hs hp ⟨hn, hr⟩
  | lsO hm hl hs1 hs hn hr => exact .lsO hm hl hs1 hs ⟨hn, hr⟩
theorem VNs.top {E : Nat} {l : List AV} {m : List BV} (v : VNs G.om h E l m) : VBs G h l (m.map (BV.withm E)) := v.map_r fun a b _ hv => hv.top (om := G.om)
theorem tagm_sub {own m t : Nat} (ht : m.testBit t = true) : (tagm own m).testBit t = true := by
  unfold tagm
  cases Nat.beq own 0 with
  | true => exact ht
  | false => simp only [cond_false, Nat.testBit_or, ht, Bool.true_or]
theorem tagm_own {own m t : Nat} (h0 : own = 0 → m.testBit t = true) (h1 : own ≠ 0 → t + 1 = own) : (tagm own m).testBit t = true := by
  unfold tagm
  by_cases h : own = 0
  · subst h; simpa using h0 rfl
  · have : Nat.beq own 0 = false := beq_ne h
    rw [this]
    simp only [cond_false, Nat.testBit_or]
    have : own - 1 = t := by have := h1 h; omega
    rw [this, Nat.testBit_two_pow_self, Bool.or_true]

theorem RepB.rd (hr : RepB G s r) {x : Slot} {y : BSlot} (hx : SlotB G r.hp x y) {n : Nat} {l : List BV} (hl : s.rdB y n = some l) : ∃ m, r.rd x n = some m ∧ VBs G r.hp m l := by
  unfold BS.rdB at hl
  split at hl
  · rename_i t off
    cases hx
    split at hl
    · rename_i c hc
      obtain ⟨d, h1, h2⟩ := hr.lo t c hc
      obtain ⟨m, h3, h4⟩ := h2.part hl
      exact ⟨m, by simp only [RS.rd, h1]; exact h3, h4⟩
    · cases hl
  · rename_i t off
    cases hx with
    | v hv =>
      obtain ⟨x, b, rfl, h1⟩ := hv.ptr_inv
      cases hlt : Nat.blt t 128 with
      | false => rw [hlt] at hl; cases hl
      | true =>
      simp only [hlt, cond_true] at hl
      split at hl
      · rename_i c hc
        obtain ⟨a, b', k, ca, q1, q2, q3, q4, q5, q6⟩ := (hr.ob t c hc).lo hlt
        rw [h1] at q1
        simp only [Option.some.injEq, Prod.mk.injEq] at q1
        obtain ⟨rfl, rfl⟩ := q1
        obtain ⟨m, h3, h4⟩ := q6.part hl
        refine ⟨m, ?_, h4⟩
        simp only [RS.rd, q3]
        rw [part_eq]
        rw [partG_some] at q5 h3 ⊢
        rw [partG_some] at hl
        refine ⟨by have := hl.1; omega, ?_⟩
        rw [h3.2, q5.2, List.drop_take, List.take_take, List.drop_drop]
        congr 1
        have := hl.1
        omega
      · cases hl
  · rename_i cs off m
    cases hx with
    | v hv =>
      split at hl
      · rename_i l' hl'
        simp only [Option.some.injEq] at hl; subst hl
        cases hv with
        | sc hs => have := toA_iff.2 hs; cases this
        | @roA a b off k cs as m ha hk hm hp hv =>
          obtain ⟨m', h3, h4⟩ := hv.part hl'
          refine ⟨m', ?_, VNs.top h4⟩
          simp only [RS.rd, hk]
          rw [part_eq] at hp ⊢
          rw [partG_some] at hp h3 hl' ⊢
          refine ⟨by have := hl'.1; omega, ?_⟩
          rw [h3.2, hp.2, List.drop_take, List.take_take, List.drop_drop]
          congr 1
          have := hl'.1
          omega
        | roO ho hv =>
          obtain ⟨m', h3, h4⟩ := hv.part hl'
          exact ⟨m', h3, VNs.top h4⟩
      · cases hl
  · cases hl
theorem mkB_sound {ti : TI} {l : List AV} {m : List BV} (hv : VBs G h l m) {b : BV} (hb : mkB ti m = some b) : ∃ a, mkv ti l = some a ∧ VB G h a b := by
  unfold mkB at hb
  unfold mkv
  cases hi : ti.isAgg with
  | true =>
    rw [hi] at hb
    simp only [cond_true, Option.some.injEq] at hb; subst hb
    exact ⟨.agg l, rfl, .agg hv.1 hv.2⟩
  | false =>
    rw [hi] at hb
    simp only [cond_false] at hb
    split at hb
    · simp only [Option.some.injEq] at hb; subst hb
      obtain ⟨a, l', rfl, h1, h2⟩ := hv.cons_r
      rw [h2.nil_r]
      exact ⟨a, rfl, h1⟩
    · cases hb
theorem addB_sound {x : Slot} {y : BSlot} {n : Nat} (hx : SlotB G h x y) {z : BSlot} (hz : addB y n = some z) : ∃ w, addA x n = some w ∧ SlotB G h w z := by
  unfold addB at hz
  split at hz
  · cases hx
    simp only [Option.some.injEq] at hz; subst hz
    exact ⟨_, rfl, .lr⟩
  · cases hx with
    | v hv =>
      simp only [Option.some.injEq] at hz; subst hz
      obtain ⟨a, b, rfl, h1⟩ := hv.ptr_inv
      exact ⟨_, rfl, .v (by rw [Nat.add_assoc]; exact .ptr h1)⟩
  · cases hx with
    | v hv =>
      simp only [Option.some.injEq] at hz; subst hz
      cases hv with
      | sc hs => have := toA_iff.2 hs; cases this
      | roA ha hk hm hp hv => exact ⟨_, rfl, .v (by rw [Nat.add_assoc]; exact .roA ha hk hm hp hv)⟩
      | roO ho hv => exact ⟨_, rfl, .v (.roO ho hv)⟩
  · cases hz
theorem isAddrB_sound {x : Slot} {y : BSlot} (hx : SlotB G h x y) (hy : isAddrB y = true) : isAddr x = true := by
  unfold isAddrB at hy
  split at hy
  · cases hx; rfl
  · cases hx with
    | v hv => obtain ⟨a, b, rfl, h1⟩ := hv.ptr_inv; rfl
  · cases hx with
    | v hv =>
      cases hv with
      | sc hs => have := toA_iff.2 hs; cases this
      | roA => rfl
      | roO => rfl
  · cases hy
theorem partAB_sound {as : List AV} {cs : List BV} (hv : VBs G h as cs) {off n : Nat} {ia : Bool} {z : BSlot} (hz : partAB cs off n ia = some z) : ∃ w, partA as off n ia = some w ∧ SlotB G h w z := by
  unfold partAB at hz
  unfold partA
  cases ia with
  | true =>
    simp only [cond_true] at hz ⊢
    split at hz
    · rename_i l hl
      simp only [Option.some.injEq] at hz; subst hz
      obtain ⟨m, h1, h2⟩ := hv.part hl
      rw [part_eq, h1]
      exact ⟨_, rfl, .v (.agg h2.1 h2.2)⟩
    · cases hz
  | false =>
    simp only [cond_false] at hz ⊢
    split at hz
    · rename_i c hc
      simp only [Option.some.injEq] at hz; subst hz
      obtain ⟨a, h1, h2⟩ := hv.get hc
      rw [h1]
      exact ⟨_, rfl, .v h2⟩
    · cases hz
theorem up_sound {a : Option AV} {z : BSlot} (hz : up a = some z) : ∃ w, a.map Slot.v = some w ∧ SlotB G h w z := by
  unfold up at hz
  split at hz
  · split at hz
    · rename_i hb
      simp only [Option.some.injEq] at hz; subst hz
      exact ⟨_, rfl, .v (.sc hb)⟩
    · cases hz
  · cases hz
theorem nilqB_sound {k : TK} {a : AV} {b : BV} (v : VB G h a b) {p : Bool} (hp : nilqB k b = some p) : AV.nilq k a = some p := by
  unfold nilqB at hp
  split at hp
  · split at hp
    · have := v.toA (a' := .nilp) rfl; subst this; exact hp
    · obtain ⟨x, y, rfl, _⟩ := v.ptr_inv; exact hp
    · cases v with
      | sc hs => have := toA_iff.2 hs; cases this
      | roA => exact hp
      | roO => exact hp
    · cases hp
  · split at hp
    · have := v.toA (a' := .nilif) rfl; subst this; exact hp
    · obtain ⟨x, rfl, _⟩ := v.iface_inv; exact hp
    · cases hp
  · split at hp
    · have := v.toA (a' := .nilfn) rfl; subst this; exact hp
    · obtain ⟨x, rfl, _⟩ := v.fn_inv; exact hp
    · cases hp
  · cases hp
theorem eqnB_sound {k : TK} {x y : Operand} {a a' : AV} {b b' : BV} (v : VB G h a b) (v' : VB G h a' b') {p : Bool} (hp : eqnB k x y b b' = some p) : eqn k x y a a' = some p ∧ ∃ q, AV.nilq k a = some q := by
  unfold eqnB at hp
  unfold eqn
  split at hp
  · rename_i h1 h2
    rw [nilqB_sound v h1, nilqB_sound v' h2]
    exact ⟨hp, _, rfl⟩
  · rename_i h1 h2
    rw [nilqB_sound v h1, nilqB_sound v' h2]
    exact ⟨hp, _, rfl⟩
  · rename_i h1 h2
    rw [nilqB_sound v h1, nilqB_sound v' h2]
    exact ⟨hp, _, rfl⟩
  · cases hp
theorem nilq_binF {T : Nat → Option TI} {k : TK} {op : BinOp} {t : Nat} {x y : Operand} {a b : AV} {q : Bool} (h : AV.nilq k a = some q) : binF T op t x y a b = binN T op t x y a b := by
  cases a <;> first | rfl | (cases k <;> simp [AV.nilq] at h)
theorem boundB_sound {u : Option AV} {w : Option BV} (hu : (w = none ∧ u = none) ∨ ∃ a b, u = some a ∧ w = some b ∧ VB G h a b) {d m n : Nat} (hb : boundB w d m = some n) : bound u d m = some n := by
  rcases hu with ⟨rfl, rfl⟩ | ⟨a, b, rfl, rfl, v⟩
  · exact hb
  · unfold boundB at hb
    split at hb
    · rename_i hh; cases hh
    · rename_i hh
      simp only [Option.some.injEq] at hh; subst hh
      rw [v.int]; exact hb
    · cases hb
theorem boundB_le {w : Option BV} {d m n : Nat} (hd : d ≤ m) (hb : boundB w d m = some n) : n ≤ m := by
  unfold boundB at hb
  split at hb
  · simp only [Option.some.injEq] at hb; omega
  · split at hb
    · simp only [Option.some.injEq] at hb; omega
    · cases hb
  · cases hb
end
end Go.Eng

/- ENGINE 37: what an operation that only reads yields over values of the second kind stands for what it yields. -/
set_option linter.unusedVariables false
set_option linter.unusedSimpArgs false
namespace Go.Eng
open Go

section
variable {G : Gh} {T : Nat → Option TI} {ZB : Nat → Option (List BV)} {s : BS} {r : RS} {h : Hp}

theorem VN.weaks {om : Nat → Nat} {E E' : Nat} {l : List AV} {m : List BV} (hE : ∀ t, E.testBit t = true → E'.testBit t = true) (v : VNs om h E l m) : VNs om h E' l m := v.imp fun _ _ _ k => k.weak hE
theorem idxB_sound {t : Nat} {x : Slot} {y : BSlot} (hx : SlotB G h x y) {n : Int} {z : BSlot} (hz : idxB T t y n = some z) : ∃ w, idxF T t x n = some w ∧ SlotB G h w z := by
  unfold idxB at hz
  split at hz
  · rename_i ti hT
    split at hz
    · rename_i e sz by' ez hk
      split at hz
      · rename_i es z' own m
        cases hx with
        | v hv =>
          split at hz
          · rename_i row hrow
            cases hb : Nat.beq z' sz with
            | false => rw [hb] at hz; cases hz
            | true =>
              rw [hb] at hz
              have := Nat.eq_of_beq_eq_true hb
              subst this
              simp only [cond_true, Option.some.injEq] at hz; subst hz
              have h0 : 0 ≤ n := by
                by_cases h0 : 0 ≤ n
                · exact h0
                · rw [if_neg h0] at hrow; cases hrow
              rw [if_pos h0] at hrow
              have hlt : n.toNat < es.length := (List.getElem?_eq_some_iff.1 hrow).1
              cases hv with
              | sc hs => have := toA_iff.2 hs; cases this
              | lsN => simp at hlt
              | @lsA a off len _ cap k _ cs _ _ ha hk' hq hm ho hl hs hp hr =>
                refine ⟨.v (.ptr a (off + n.toNat * z')), ?_, .v ?_⟩
                · simp only [idxF, hT, hk, hb, cond_true]
                  rw [if_pos ⟨h0, by omega⟩]
                · have hrl := hs row (List.mem_of_getElem? hrow)
                  have hmul : n.toNat * z' + z' ≤ len * z' := by rw [← Nat.succ_mul]; exact Nat.mul_le_mul_right _ (by omega)
                  have hcs : partG cs (n.toNat * z') row.length = some ((cs.drop (n.toNat * z')).take z') := by
                    rw [partG_some]
                    have : cs.length = es.flatten.length := hr.1
                    rw [flat_lenG z' es hs] at this
                    rw [hrl]
                    exact ⟨by rw [this, hl]; exact hmul, rfl⟩
                  have hfl : partG es.flatten (n.toNat * z') row.length = some row := by
                    rw [partG_some]
                    rw [flat_lenG z' es hs, hrl]
                    exact ⟨by rw [hl]; exact hmul, (flat_part z' es _ row hs hrow).symm⟩
                  obtain ⟨m', q1, q2⟩ := hr.part hfl
                  refine .roA (b := off + n.toNat * z') (off := 0) ha hk' ⟨hq, tagm_own hm ho⟩ ?_ (VN.weaks (fun t => tagm_sub) q2)
                  rw [part_eq] at hp ⊢
                  rw [partG_some] at hp q1 ⊢
                  refine ⟨by rw [hrl]; omega, ?_⟩
                  rw [q1.2, hp.2, List.drop_take, List.take_take, List.drop_drop, hrl]
                  congr 1
                  omega
              | @lsO rs _ c _ _ hm hl hs1 hs hr =>
                have hlt' : n.toNat < rs.length := by omega
                refine ⟨.v (.ro rs[n.toNat] 0), ?_, .v ?_⟩
                · simp only [idxF, hT, hk, hb, cond_true, if_pos h0, List.getElem?_eq_getElem hlt']
                · have hrl := hs row (List.mem_of_getElem? hrow)
                  have hrl' := hs1 rs[n.toNat] (List.getElem_mem hlt')
                  have hmul : n.toNat * z' + z' ≤ es.length * z' := by rw [← Nat.succ_mul]; exact Nat.mul_le_mul_right _ (by omega)
                  have hfl : partG es.flatten (n.toNat * z') z' = some row := by
                    rw [partG_some, flat_lenG z' es hs]
                    exact ⟨hmul, (flat_part z' es _ row hs hrow).symm⟩
                  obtain ⟨m', q1, q2⟩ := hr.part hfl
                  have : m' = rs[n.toNat] := by
                    rw [partG_some] at q1
                    rw [q1.2]
                    exact flat_part z' rs _ _ hs1 (by simp [hlt'])
                  subst this
                  exact .roO (hm.weak fun t => tagm_sub) (VN.weaks (fun t => tagm_sub) q2)
          · cases hz
      · rename_i t' off len z'
        cases hx with
        | v hv =>
          split at hz
          · rename_i hr
            cases hb : Nat.beq z' sz with
            | false => rw [hb] at hz; cases hz
            | true =>
              rw [hb] at hz
              simp only [cond_true, Option.some.injEq] at hz; subst hz
              cases hv with
              | sc hs => have := toA_iff.2 hs; cases this
              | sl0 => omega
              | @sl _ a b _ _ _ cap hp =>
                refine ⟨.v (.ptr a (b + off + n.toNat * sz)), ?_, .v (by rw [Nat.add_assoc]; exact .ptr hp)⟩
                simp only [idxF, hT, hk, hb, cond_true, if_pos hr]
          · cases hz
      · cases hz
    · rename_i len e sz ea hk
      split at hz
      · rename_i hr
        obtain ⟨w, h1, h2⟩ := addB_sound hx hz
        refine ⟨w, ?_, h2⟩
        simp only [idxF, hT, hk, if_pos hr]
        exact h1
      · cases hz
    · cases hz
  · cases hz
theorem sliceB_sound {t : Nat} {a : AV} {b : BV} (v : VB G h a b) {lo hi : Option AV} {lo' hi' : Option BV} (h1 : (lo' = none ∧ lo = none) ∨ ∃ a b, lo = some a ∧ lo' = some b ∧ VB G h a b) (h2 : (hi' = none ∧ hi = none) ∨ ∃ a b, hi = some a ∧ hi' = some b ∧ VB G h a b)
    {z : BV} (hz : sliceB T t b lo' hi' = some z) : ∃ w, sliceF T t a lo hi none = some w ∧ VB G h w z := by
  unfold sliceB at hz
  split at hz
  · rename_i ti hT
    split at hz
    · rename_i hk
      split at hz
      · rename_i l
        have := v.str
        subst this
        split at hz
        · rename_i n1 hn1
          split at hz
          · rename_i n2 hn2
            simp only [Option.some.injEq] at hz; subst hz
            exact ⟨_, by simp only [sliceF, hT, hk, boundB_sound h2 hn1, boundB_sound h1 hn2]; rfl, .sc rfl⟩
          · cases hz
        · cases hz
      · cases hz
    · rename_i e sz by' ez hk
      split at hz
      · rename_i es z' own m
        split at hz
        · rename_i n1 hn1
          split at hz
          · rename_i n2 hn2
            cases hb : Nat.beq z' sz with
            | false => rw [hb] at hz; cases hz
            | true =>
              rw [hb] at hz
              have := Nat.eq_of_beq_eq_true hb
              subst this
              simp only [cond_true, Option.some.injEq] at hz; subst hz
              have l1 : n1 ≤ es.length := boundB_le (Nat.le_refl _) hn1
              have l2 : n2 ≤ n1 := boundB_le (Nat.zero_le _) hn2
              have hmem : ∀ r ∈ (es.take n1).drop n2, r ∈ es := fun r hr => List.mem_of_mem_take (List.mem_of_mem_drop hr)
              cases v with
              | sc hs => have := toA_iff.2 hs; cases this
              | lsN =>
                simp only [List.length_nil] at hn1
                refine ⟨.nils, by simp only [sliceF, hT, hk, show bound none 0 0 = some 0 from rfl, boundB_sound h2 hn1, boundB_sound h1 hn2], ?_⟩
                simp only [List.take_nil, List.drop_nil]; exact .lsN
              | @lsA a off len _ cap k _ cs _ _ ha hk' hq hm ho hl hs hp hr =>
                subst hl
                refine ⟨.sl a (off + n2 * z') (n1 - n2) z' (cap.map (· - n2)), by simp only [sliceF, hT, hk, show bound none es.length es.length = some es.length from rfl, hb, cond_true, boundB_sound h2 hn1, boundB_sound h1 hn2], ?_⟩
                refine .lsA (cs := ((cs.take (n1 * z')).drop (n2 * z'))) ha hk' hq hm ho (by simp; omega) (fun r hr => hs r (hmem r hr)) ?_ ?_
                · have e1 : cs.length = es.length * z' := by rw [hr.1, flat_lenG z' es hs]
                  have m1 : n1 * z' ≤ es.length * z' := Nat.mul_le_mul_right _ l1
                  have m2 : n2 * z' ≤ n1 * z' := Nat.mul_le_mul_right _ l2
                  rw [part_eq] at hp ⊢
                  rw [partG_some] at hp ⊢
                  rw [Nat.sub_mul]
                  refine ⟨by omega, ?_⟩
                  rw [hp.2, List.take_take, List.drop_take, List.drop_drop, Nat.min_eq_left m1]
                · rw [flat_drop z' _ _ (fun r hr => hs r (List.mem_of_mem_take hr)), flat_take z' _ _ hs]
                  exact (hr.take _).drop _
              | @lsO rs _ c _ _ hm hl hs1 hs hr =>
                refine ⟨.rl ((rs.take n1).drop n2) z' c, by simp only [sliceF, hT, hk, show bound none rs.length rs.length = some rs.length from rfl, hb, cond_true, show bound hi rs.length rs.length = some n1 from by rw [hl]; exact boundB_sound h2 hn1, boundB_sound h1 hn2], ?_⟩
                refine .lsO hm (by simp; omega) (fun r hr => hs1 r (List.mem_of_mem_take (List.mem_of_mem_drop hr))) (fun r hr => hs r (hmem r hr)) ?_
                rw [flat_drop z' _ _ (fun r hr => hs r (List.mem_of_mem_take hr)), flat_take z' _ _ hs, flat_drop z' _ _ (fun r hr => hs1 r (List.mem_of_mem_take hr)), flat_take z' _ _ hs1]
                exact (hr.take _).drop _
          · cases hz
        · cases hz
      · cases hz
    · cases hz
  · cases hz
theorem lenB_sound {t : Nat} {a : AV} {b : BV} (v : VB G h a b) {n : Nat} (hn : lenB T t b = some n) : lenF T t a = some n := by
  unfold lenB at hn
  split at hn
  · rename_i ti hT
    split at hn
    · rename_i hk
      split at hn
      · have := v.str; subst this; simp only [lenF, hT, hk]; exact hn
      · cases hn
    · rename_i hk
      split at hn
      · simp only [Option.some.injEq] at hn; subst hn
        cases v with
        | sc hs => have := toA_iff.2 hs; cases this
        | lsN => simp only [lenF, hT, hk]; rfl
        | lsA ha hk' hq hm ho hl hs hp hr => simp only [lenF, hT, hk, hl]
        | lsO hm hl hs1 hs hr => simp only [lenF, hT, hk, hl]
      · simp only [Option.some.injEq] at hn; subst hn
        cases v with
        | sc hs => have := toA_iff.2 hs; cases this
        | sl0 => simp only [lenF, hT, hk]
        | sl hp => simp only [lenF, hT, hk]
      · cases hn
    · cases hn
  · cases hn
theorem zEq1_sound {a : AV} {b : BV} (hz : zEq1 a b = true) : VB G h a b := by
  cases a <;> cases b <;> simp only [zEq1, Bool.false_eq_true, Bool.and_eq_true, beq_iff_eq, BV.isE] at hz
  all_goals try exact .sc rfl
  · subst hz; exact .sc rfl
  · obtain ⟨h1, h2⟩ := hz; subst h2; rw [h1]; exact .sc rfl
  · subst hz; exact .sc rfl
  · exact VB.isE hz
theorem zEq_sound : ∀ {l : List AV} {m : List BV}, zEq l m = true → VBs G h l m
  | [], [], _ => .nil
  | a :: l, b :: m, hz => by
    simp only [zEq, Bool.and_eq_true] at hz
    exact .cons (zEq1_sound hz.1) (zEq_sound hz.2)
  | [], b :: m, hz => by cases hz
  | a :: l, [], hz => by cases hz
theorem fillB_sound {place place' : Nat → Option (Nat × Nat)} (hpl : ∀ i, place' i = place i) : ∀ {ps : List (Nat × BV)} {qs : List (Nat × AV)} {as : List AV} {cs c : List BV}, L2 (fun x y => x.1 = y.1 ∧ VB G h x.2 y.2) qs ps → VBs G h as cs → fillB place cs ps = some c → ∃ d, fill place' as qs = some d ∧ VBs G h d c
  | [], qs, as, cs, c, hq, hv, hf => by
    rw [hq.nil_r]
    simp only [fillB, Option.some.injEq] at hf; subst hf
    exact ⟨as, rfl, hv⟩
  | (i, b) :: ps, qs, as, cs, c, hq, hv, hf => by
    obtain ⟨⟨i', a⟩, qs, rfl, ⟨h1, h2⟩, h3⟩ := hq.cons_r
    simp only at h1 h2
    subst h1
    simp only [fillB] at hf
    simp only [fill, hpl]
    split at hf
    · cases hf
    · rename_i off n hp
      simp only [hp]
      split at hf
      · have := h2.nils_inv
        subst this
        cases hc : Nat.beq n 1 && isEAt cs off with
        | false => rw [hc] at hf; cases hf
        | true =>
          rw [hc] at hf
          simp only [cond_true] at hf
          simp only [Bool.and_eq_true] at hc
          obtain ⟨hc1, hc2⟩ := hc
          have := Nat.eq_of_beq_eq_true hc1
          subst this
          unfold isEAt at hc2
          split at hc2
          · rename_i z hz
            have hlt : off < cs.length := (List.getElem?_eq_some_iff.1 hz).1
            have hw : wrG cs off [z] = some cs := by
              rw [wrG_some]
              refine ⟨hlt, ?_⟩
              have e : cs.drop off = z :: cs.drop (off + 1) := by
                rw [List.drop_eq_getElem_cons hlt]
                congr 1
                exact (List.getElem?_eq_some_iff.1 hz).2
              calc cs = cs.take off ++ cs.drop off := (List.take_append_drop off cs).symm
                _ = _ := by rw [e]; simp
            obtain ⟨as', w1, w2⟩ := hv.wr (L2.cons (VB.isE (G := G) (h := h) hc2) L2.nil) hw
            have : (Nat.beq (AV.nils.cells.length) 1 && AV.nils.cells.all AV.one) = true := rfl
            simp only [this, cond_true, wr_eq, AV.cells, w1]
            exact fillB_sound hpl h3 w2 hf
          · cases hc2
      · cases hc : Nat.beq b.cells.length n && b.cells.all BV.one with
        | false => rw [hc] at hf; cases hf
        | true =>
          rw [hc] at hf
          simp only [cond_true] at hf
          simp only [Bool.and_eq_true] at hc
          obtain ⟨k1, k2⟩ := h2.cells hc.2
          split at hf
          · rename_i c' hw
            obtain ⟨as', w1, w2⟩ := hv.wr k1 hw
            have : (Nat.beq a.cells.length n && a.cells.all AV.one) = true := by rw [k1.1, hc.1, k2]; rfl
            simp only [this, cond_true, wr_eq, w1]
            exact fillB_sound hpl h3 w2 hf
          · cases hf
theorem buildB_sound {t : Nat} {ps : List (Nat × BV)} {qs : List (Nat × AV)} (hq : L2 (fun x y => x.1 = y.1 ∧ VB G h x.2 y.2) qs ps) {z : BV} (hz : buildB T ZB t ps = some z) : ∃ w, buildF T t qs = some w ∧ VB G h w z := by
  unfold buildB at hz
  split at hz
  · rename_i ti zb hT hZ
    split at hz
    · rename_i fs hk
      cases he : zEq ti.zero zb with
      | false => rw [he] at hz; cases hz
      | true =>
        rw [he] at hz
        simp only [cond_true] at hz
        split at hz
        · rename_i c hc
          simp only [Option.some.injEq] at hz; subst hz
          obtain ⟨d, h1, h2⟩ := fillB_sound (place' := fun i => (fs[i]?).map fun (a, b, _) => (a, b)) (fun i => by cases fs[i]? <;> rfl) hq (zEq_sound he) hc
          exact ⟨.agg d, by simp only [buildF, hT, hk, h1, Option.map_some], .agg h2.1 h2.2⟩
        · cases hz
    · cases hz
  · cases hz
end
end Go.Eng

/- ENGINE 38: an operation that only reads, over values of the second kind. -/
set_option linter.unusedVariables false
set_option linter.unusedSimpArgs false
namespace Go.Eng
open Go

section
variable {G : Gh} {T : Nat → Option TI} {ZB : Nat → Option (List BV)} {s : BS} {r : RS} {h : Hp}

/-- What an operation that only reads yields, of what is known. -/
def POpB (T : Nat → Option TI) (s : BS) (op : Op) (y : BSlot) : Prop := ∀ G r, RepB G s r → ∃ x, rop T r op = some x ∧ SlotB G r.hp x y
theorem ropB_sound {ty : Nat} {op : Op} {y : BSlot} (h : ropB T ZB s ty op = some y) : POpB T s op y := by
  intro G r hr
  have hval1 : ∀ {x : Operand}, (match s.valT ZB ty x with | some v => some (BSlot.v v) | none => none) = some y → ∃ z, (r.val x).map Slot.v = some z ∧ SlotB G r.hp z y := by
    intro x hx
    split at hx
    · rename_i v hv
      simp only [Option.some.injEq] at hx; subst hx
      obtain ⟨a, h1, h2⟩ := hr.valT hv
      exact ⟨.v a, by rw [h1]; rfl, .v h2⟩
    · cases hx
  unfold ropB at h
  split at h
  · exact hval1 h
  · exact hval1 h
  · split at h
    · rename_i hc
      obtain ⟨a, h1, h2⟩ := hr.val hc
      have := h2.bool; subst this
      simp only [rop, rPick, h1, cond_true]
      exact hval1 h
    · rename_i hc
      obtain ⟨a, h1, h2⟩ := hr.val hc
      have := h2.bool; subst this
      simp only [rop, rPick, h1, cond_false]
      exact hval1 h
    · cases h
  · split at h
    · rename_i ti x hT hx
      obtain ⟨w, w1, w2⟩ := hr.slot hx
      split at h
      · rename_i cs hcs
        obtain ⟨m, m1, m2⟩ := hr.rd w2 hcs
        split at h
        · rename_i v hv
          simp only [Option.some.injEq] at h; subst h
          obtain ⟨a, a1, a2⟩ := mkB_sound m2 hv
          exact ⟨.v a, by simp only [rop, rLoad, hT, w1, m1, a1, Option.map_some], .v a2⟩
        · cases h
      · cases h
    · cases h
  · split at h
    · rename_i a ha
      obtain ⟨w, w1, w2⟩ := hr.slot ha
      cases hi : isAddrB a with
      | false => rw [hi] at h; cases h
      | true =>
        rw [hi] at h
        simp only [cond_true, Option.some.injEq] at h; subst h
        exact ⟨w, by simp only [rop, rNil, w1, isAddrB_sound w2 hi, cond_true], w2⟩
    · cases h
  · rename_i op t x z _
    split at h
    · rename_i a b ha hb
      obtain ⟨a', a1, a2⟩ := hr.val ha
      obtain ⟨b', b1, b2⟩ := hr.val hb
      split at h
      · rename_i a'' b'' hta htb
        have := a2.toA hta; subst this
        have := b2.toA htb; subst this
        obtain ⟨w, w1, w2⟩ := up_sound (G := G) (h := r.hp) h
        exact ⟨w, by simp only [rop, rBin, a1, b1, w1], w2⟩
      · split at h
        · rename_i ti hT
          split at h
          · split at h
            · rename_i c hc
              simp only [Option.some.injEq] at h; subst h
              obtain ⟨e1, q, e2⟩ := eqnB_sound a2 b2 hc
              exact ⟨.v (.bool c), by simp only [rop, rBin, a1, b1, nilq_binF e2, binN, hT, e1, Option.map_some], .v (.sc rfl)⟩
            · cases h
          · split at h
            · rename_i c hc
              simp only [Option.some.injEq] at h; subst h
              obtain ⟨e1, q, e2⟩ := eqnB_sound a2 b2 hc
              exact ⟨.v (.bool (!c)), by simp only [rop, rBin, a1, b1, nilq_binF e2, binN, hT, e1, Option.map_some], .v (.sc rfl)⟩
            · cases h
          · cases h
        · cases h
    · cases h
  · split at h
    · rename_i b hb
      simp only [Option.some.injEq] at h; subst h
      obtain ⟨a, a1, a2⟩ := hr.val hb
      have := a2.bool; subst this
      exact ⟨.v (.bool (!b)), by simp only [rop, rUn, a1], .v (.sc rfl)⟩
    · cases h
  · split at h
    · rename_i k b hb
      simp only [Option.some.injEq] at h; subst h
      obtain ⟨a, a1, a2⟩ := hr.val hb
      have := a2.int; subst this
      exact ⟨.v (.int k (fwrap k (0 - b))), by simp only [rop, rUn, a1], .v (.sc rfl)⟩
    · cases h
  · split at h
    · rename_i v hv
      obtain ⟨a, a1, a2⟩ := hr.val hv
      split at h
      · rename_i v' hv'
        have := a2.toA hv'; subst this
        obtain ⟨w, w1, w2⟩ := up_sound (G := G) (h := r.hp) h
        exact ⟨w, by simp only [rop, rConv, a1, w1], w2⟩
      · cases h
    · cases h
  · split at h
    · rename_i ti a hT ha
      obtain ⟨w, w1, w2⟩ := hr.slot ha
      split at h
      · rename_i fs hk
        split at h
        · rename_i off n _ hf
          cases hn : Nat.beq n 0 with
          | true => rw [hn] at h; cases h
          | false =>
            rw [hn] at h
            obtain ⟨u, u1, u2⟩ := addB_sound w2 h
            exact ⟨u, by simp only [rop, rFieldAddr, hT, w1, hk, hf, hn, cond_false, u1], u2⟩
        · cases h
      · cases h
    · cases h
  · split at h
    · rename_i ti cs hT hc
      obtain ⟨a, a1, a2⟩ := hr.val hc
      obtain ⟨as, rfl, a3⟩ := a2.agg_inv
      split at h
      · rename_i fs hk
        split at h
        · rename_i off n ia hf
          obtain ⟨u, u1, u2⟩ := partAB_sound a3 h
          exact ⟨u, by simp only [rop, rField, hT, a1, hk, hf, u1], u2⟩
        · cases h
      · cases h
    · cases h
  · split at h
    · rename_i a k n ha hn
      obtain ⟨w, w1, w2⟩ := hr.slot ha
      obtain ⟨b, b1, b2⟩ := hr.val hn
      have := b2.int; subst this
      obtain ⟨u, u1, u2⟩ := idxB_sound w2 h
      exact ⟨u, by simp only [rop, rIndexAddr, w1, b1, u1], u2⟩
    · cases h
  · split at h
    · rename_i ti l k n hT hl hn
      obtain ⟨a, a1, a2⟩ := hr.val hl
      obtain ⟨b, b1, b2⟩ := hr.val hn
      have := b2.int; subst this
      have := a2.str; subst this
      split at h
      · rename_i hk
        split at h
        · rename_i b hb
          simp only [Option.some.injEq] at h; subst h
          exact ⟨.v (.int .u8 b.toNat), by simp only [rop, rIndex, hT, a1, b1, hk, hb], .v (.sc rfl)⟩
        · cases h
      · cases h
    · rename_i ti cs k n hT hl hn
      obtain ⟨a, a1, a2⟩ := hr.val hl
      obtain ⟨b, b1, b2⟩ := hr.val hn
      have := b2.int; subst this
      obtain ⟨as, rfl, a3⟩ := a2.agg_inv
      split at h
      · rename_i hk
        split at h
        · rename_i hn
          obtain ⟨u, u1, u2⟩ := partAB_sound a3 h
          exact ⟨u, by simp only [rop, rIndex, hT, a1, b1, hk, if_pos hn, u1], u2⟩
        · cases h
      · cases h
    · cases h
  · split at h
    · rename_i v l hh hv hl hh'
      obtain ⟨a, a1, a2⟩ := hr.val hv
      obtain ⟨u1, b1, b2⟩ := hr.opt hl
      obtain ⟨u2, c1, c2⟩ := hr.opt hh'
      split at h
      · rename_i z hz
        simp only [Option.some.injEq] at h; subst h
        obtain ⟨w, w1, w2⟩ := sliceB_sound a2 b2 c2 hz
        exact ⟨.v w, by simp only [rop, rSlice, Option.isSome_none, Bool.false_and, cond_false, a1, b1, c1, show optV r none = some none from rfl, w1, Option.map_some], .v w2⟩
      · cases h
    · cases h
  · split at h
    · rename_i vs hv
      obtain ⟨a, a1, a2⟩ := hr.val hv
      obtain ⟨as, rfl, a3⟩ := a2.tup_inv
      split at h
      · rename_i v hi
        simp only [Option.some.injEq] at h; subst h
        obtain ⟨u, u1, u2⟩ := a3.get hi
        exact ⟨.v u, by simp only [rop, rExtract, a1, u1, Option.map_some], .v u2⟩
      · cases h
    · cases h
  · split at h
    · rename_i ti v hT hv
      obtain ⟨a, a1, a2⟩ := hr.val hv
      cases hk : ti.k <;> simp only [hk, Option.some.injEq, reduceCtorEq] at h
      all_goals
        subst h
        exact ⟨.v (.iface _ a), by simp only [rop, rMakeI, hT, a1, hk], .v (.iface a2)⟩
    · cases h
  · split at h
    · rename_i c h1 h2
      simp only [Option.some.injEq] at h; subst h
      obtain ⟨m, m1, m2⟩ := hr.vals h2
      exact ⟨.v (.fn _ m), by simp only [rop, rMakeF, h1, valsV, m1], .v (.fn m2.1 m2.2)⟩
    · cases h
  · split at h
    · rename_i l hl
      obtain ⟨m, m1, m2⟩ := hr.pairs hl
      split at h
      · rename_i v hv
        simp only [Option.some.injEq] at h; subst h
        obtain ⟨w, w1, w2⟩ := buildB_sound m2 hv
        exact ⟨.v w, by simp only [rop, rBuild, m1, w1, Option.map_some], .v w2⟩
      · cases h
    · cases h
  · rename_i x _ t ok
    split at h
    · rename_i u v ti hv hT
      obtain ⟨a, a1, a2⟩ := hr.val hv
      obtain ⟨w, rfl, a3⟩ := a2.iface_inv
      cases hu : Nat.beq u t with
      | false => rw [hu] at h; cases hk : ti.k <;> simp only [hk, cond_false, reduceCtorEq] at h
      | true =>
        rw [hu] at h
        cases ok with
        | true =>
          cases hk : ti.k <;> simp only [hk, cond_true, Option.some.injEq, reduceCtorEq] at h
          all_goals
            subst h
            refine ⟨.v (.tup [w, .bool true]), by simp only [rop, rAssert, a1, hT, hk, hu, cond_true], .v ?_⟩
            have := L2.cons a3 (L2.cons (VB.sc (G := G) (h := r.hp) (a := .bool true) rfl) L2.nil)
            exact .tup this.1 this.2
        | false =>
          cases hk : ti.k <;> simp only [hk, cond_true, cond_false, Option.some.injEq, reduceCtorEq] at h
          all_goals
            subst h
            exact ⟨.v w, by simp only [rop, rAssert, a1, hT, hk, hu, cond_true, cond_false], .v a3⟩
    · cases h
  · split at h
    · rename_i x t ha ht
      split at h
      · rename_i v hv
        obtain ⟨a, a1, a2⟩ := hr.val hv
        split at h
        · rename_i n hn
          simp only [Option.some.injEq] at h; subst h
          exact ⟨.v (.int .i64 (n : Int)), by simp only [rop, rCall, rBuiltin, rLen, ha, ht, a1, lenB_sound a2 hn, Option.map_some], .v (.sc rfl)⟩
        · cases h
      · cases h
    · cases h
  · split at h
    · rename_i x z ha
      split at h
      · rename_i a b hva hvb
        obtain ⟨a', a1, a2⟩ := hr.val hva
        obtain ⟨b', b1, b2⟩ := hr.val hvb
        split at h
        · rename_i hta htb
          have := a2.toA hta; subst this
          have := b2.toA htb; subst this
          obtain ⟨w, w1, w2⟩ := up_sound (G := G) (h := r.hp) h
          exact ⟨w, by simp only [rop, rCall, rBuiltin, rMM, ha, valsV, a1, b1, Option.map_some, w1], w2⟩
        · cases h
      · cases h
    · cases h
  · split at h
    · rename_i x z ha
      split at h
      · rename_i a b hva hvb
        obtain ⟨a', a1, a2⟩ := hr.val hva
        obtain ⟨b', b1, b2⟩ := hr.val hvb
        split at h
        · rename_i hta htb
          have := a2.toA hta; subst this
          have := b2.toA htb; subst this
          obtain ⟨w, w1, w2⟩ := up_sound (G := G) (h := r.hp) h
          exact ⟨w, by simp only [rop, rCall, rBuiltin, rMM, ha, valsV, a1, b1, Option.map_some, w1], w2⟩
        · cases h
      · cases h
    · cases h
  · cases h
end
end Go.Eng

/- ENGINE 39: what a region does, over values of the second kind. -/
set_option linter.unusedVariables false
set_option linter.unusedSimpArgs false
namespace Go.Eng
open Go

/-- The tags of what a call makes for itself. -/
def loc (t : Nat) : Bool := (Nat.ble 1 t && Nat.ble t 62) || (Nat.ble 1001 t && Nat.ble t 1062)
structure Base where
  P : Nat → Bool
  om : Nat → Nat
  pi : Nat → Option (Nat × Nat)
  hp : Hp
/-- How things stand since a call began. -/
structure Cg (b : Base) (G : Gh) (h : Hp) : Prop where
  ok : ∀ a, a < b.hp.n → loc (b.om a) = false
  go : Go1 b.P b.om G.om b.hp h
  pi : ∀ t, hi t = true → G.pi t = b.pi t
  old : 0 < b.hp.n ∧ b.P (b.om 0) = false

/-! #### What is forgotten -/
def BV.fr (U D : Nat) (v : BV) : BV := bif v.free U D then v else .any
def BSlot.fr (U D : Nat) : BSlot → BSlot
  | .v x => bif x.free U D then .v x else .none
  | s => s
def frS (U D : Nat) : List (Nat × BSlot) → List (Nat × BSlot)
  | [] => []
  | (t, x) :: l => (t, x.fr U D) :: frS U D l
def frV (U D : Nat) : List BV → List BV
  | [] => []
  | v :: l => v.fr U D :: frV U D l
def frL (U D : Nat) : List (Nat × List BV) → List (Nat × List BV)
  | [] => []
  | (t, x) :: l => (t, frV U D x) :: frL U D l
def frO (U D : Nat) (O : Nat → Bool) : List (Nat × List BV) → List (Nat × List BV)
  | [] => []
  | (t, x) :: l => bif O t || D.testBit t then frO U D O l else (t, frV U D x) :: frO U D O l
def BS.fr (U D : Nat) (O : Nat → Bool) (s : BS) : BS := ⟨frS U D s.sl, frS U D s.env, frL U D s.lo, frO U D O s.ob, frL U D s.df⟩

section
variable {G G' : Gh} {T : Nat → Option TI} {ZB : Nat → Option (List BV)} {s s' : BS} {r : RS} {h h' : Hp} {P : Nat → Bool} {U D : Nat} {O : Nat → Bool}

theorem VB.fr {a : AV} {b : BV} (g : Go1 P G.om G'.om h h') (hP : Wi P U) (hpi : ∀ t x, D.testBit t = false → G.pi t = some x → G'.pi t = some x) (v : VB G h a b) : VB G' h' a (b.fr U D) := by
  unfold BV.fr
  cases hf : b.free U D with
  | true => exact v.keep g hP hpi hf
  | false => exact .any
theorem VBs.fr (g : Go1 P G.om G'.om h h') (hP : Wi P U) (hpi : ∀ t x, D.testBit t = false → G.pi t = some x → G'.pi t = some x) : ∀ {m : List BV} {l : List AV}, VBs G h l m → VBs G' h' l (frV U D m)
  | [], l, hv => by rw [hv.nil_r]; exact .nil
  | b :: m, l, hv => by
    obtain ⟨a, l', rfl, h1, h2⟩ := hv.cons_r
    exact .cons (h1.fr g hP hpi) (VBs.fr g hP hpi h2)
theorem SlotB.fr {x : Slot} {y : BSlot} (g : Go1 P G.om G'.om h h') (hP : Wi P U) (hpi : ∀ t x, D.testBit t = false → G.pi t = some x → G'.pi t = some x) (hx : SlotB G h x y) : SlotB G' h' x (y.fr U D) := by
  cases hx with
  | @v a b hv =>
    simp only [BSlot.fr]
    cases hf : b.free U D with
    | true => exact .v (hv.keep g hP hpi hf)
    | false => exact .nv
  | lr => exact .lr
  | nv => exact .nv
  | nn => exact .nn
theorem frS_lk : ∀ {l : List (Nat × BSlot)} {t : Nat} {y : BSlot}, lkp (frS U D l) t = some y → ∃ z, lkp l t = some z ∧ y = z.fr U D
  | [], t, y, hy => by simp [frS, lkp] at hy
  | (u, x) :: l, t, y, hy => by
    simp only [frS, lkp] at hy ⊢
    cases hu : Nat.beq u t with
    | true => simp only [hu, cond_true, Option.some.injEq] at hy ⊢; exact ⟨x, rfl, hy.symm⟩
    | false => simp only [hu, cond_false] at hy ⊢; exact frS_lk hy
theorem frL_lk : ∀ {l : List (Nat × List BV)} {t : Nat} {y : List BV}, lkp (frL U D l) t = some y → ∃ z, lkp l t = some z ∧ y = frV U D z
  | [], t, y, hy => by simp [frL, lkp] at hy
  | (u, x) :: l, t, y, hy => by
    simp only [frL, lkp] at hy ⊢
    cases hu : Nat.beq u t with
    | true => simp only [hu, cond_true, Option.some.injEq] at hy ⊢; exact ⟨x, rfl, hy.symm⟩
    | false => simp only [hu, cond_false] at hy ⊢; exact frL_lk hy
theorem frO_lk : ∀ {l : List (Nat × List BV)} {t : Nat} {y : List BV}, lkp (frO U D O l) t = some y → O t = false ∧ D.testBit t = false
  | [], t, y, hy => by simp [frO, lkp] at hy
  | (u, x) :: l, t, y, hy => by
    simp only [frO] at hy
    cases ho : O u || D.testBit u with
    | true => rw [ho] at hy; exact frO_lk hy
    | false =>
      rw [ho] at hy
      simp only [cond_false, lkp] at hy
      cases hu : Nat.beq u t with
      | true =>
        have := Nat.eq_of_beq_eq_true hu
        subst this
        simpa using ho
      | false => rw [hu] at hy; exact frO_lk hy
theorem frO_lk2 : ∀ {l : List (Nat × List BV)} {t : Nat} {y : List BV}, lkp (frO U D O l) t = some y → O t = false → D.testBit t = false → ∃ z, lkp l t = some z ∧ y = frV U D z
  | [], t, y, hy, _, _ => by simp [frO, lkp] at hy
  | (u, x) :: l, t, y, hy, h1, h2 => by
    simp only [frO] at hy
    simp only [lkp]
    cases hu : Nat.beq u t with
    | true =>
      have := Nat.eq_of_beq_eq_true hu
      subst this
      rw [h1, h2] at hy
      simp only [Bool.or_self, cond_false, lkp, beq_self, cond_true, Option.some.injEq] at hy ⊢
      exact ⟨x, rfl, hy.symm⟩
    | false =>
      simp only [cond_false]
      cases ho : O u || D.testBit u with
      | true => rw [ho] at hy; exact frO_lk2 hy h1 h2
      | false =>
        rw [ho] at hy
        simp only [cond_false, lkp, hu] at hy
        exact frO_lk2 hy h1 h2
theorem L2.frS {l : List (Nat × Slot)} : ∀ {m : List (Nat × BSlot)} {l : List (Nat × Slot)}, (∀ x y, SlotB G h x y → SlotB G' h' x (y.fr U D)) → L2 (fun x y => x.1 = y.1 ∧ SlotB G h x.2 y.2) l m → L2 (fun x y => x.1 = y.1 ∧ SlotB G' h' x.2 y.2) l (frS U D m)
  | [], l, hk, hl => by rw [hl.nil_r]; exact .nil
  | (u, b) :: m, l, hk, hl => by
    obtain ⟨⟨u', a⟩, l', rfl, ⟨h1, h2⟩, h3⟩ := hl.cons_r
    exact .cons ⟨h1, hk _ _ h2⟩ (L2.frS (l := l') hk h3)
theorem L2.frL : ∀ {m : List (Nat × List BV)} {l : List (Nat × List AV)}, (∀ x y, VBs G h x y → VBs G' h' x (frV U D y)) → L2 (fun x y => x.1 = y.1 ∧ VBs G h x.2 y.2) l m → L2 (fun x y => x.1 = y.1 ∧ VBs G' h' x.2 y.2) l (frL U D m)
  | [], l, hk, hl => by rw [hl.nil_r]; exact .nil
  | (u, b) :: m, l, hk, hl => by
    obtain ⟨⟨u', a⟩, l', rfl, ⟨h1, h2⟩, h3⟩ := hl.cons_r
    exact .cons ⟨h1, hk _ _ h2⟩ (L2.frL hk h3)
/-- Memory goes on; what hangs on what changes is forgotten. -/
theorem RepB.fr (hr : RepB G s r) (g : Go1 P G.om G'.om r.hp h') (hP : Wi P U) (hO : ∀ t, O t = false → P (tg t) = false) (hpe : ∀ t, D.testBit t = false → G'.pi t = G.pi t) : RepB G' (s.fr U D O) { r with hp := h' } where
  env := L2.frS (l := r.env) (fun x y hx => hx.fr g hP fun t x hd hx => (hpe t hd).trans hx) hr.env
  sl := fun t y hy => by
    obtain ⟨z, h1, rfl⟩ := frS_lk hy
    obtain ⟨x, h2, h3⟩ := hr.sl t z h1
    exact ⟨x, h2, h3.fr g hP fun t x hd hx => (hpe t hd).trans hx⟩
  lo := fun u c hc => by
    obtain ⟨z, h1, rfl⟩ := frL_lk hc
    obtain ⟨x, h2, h3⟩ := hr.lo u z h1
    exact ⟨x, h2, VBs.fr g hP (fun t x hd hx => (hpe t hd).trans hx) h3⟩
  ob := fun t c hc => by
    have hpi : ∀ t x, D.testBit t = false → G.pi t = some x → G'.pi t = some x := fun t x hd hx => (hpe t hd).trans hx
    obtain ⟨ho, hd⟩ := frO_lk hc
    obtain ⟨z, h1, rfl⟩ := frO_lk2 hc ho hd
    rcases hr.ob t z h1 with ⟨z1, rfl, z3⟩ | ⟨a, b, k, ca, q1, q2, q3, q4, q5, q6⟩
    · exact .inl ⟨z1, rfl, (hpe t hd).trans z3⟩
    refine .inr ⟨a, b, k, ca, hpi _ _ hd q1, Nat.lt_of_lt_of_le q2 g.n, (g.get a q2 (by rw [q4]; exact hO t ho)).trans q3, (g.om a q2).trans q4, ?_, VBs.fr g hP hpi q6⟩
    rw [← q5, ← q6.1, ← (VBs.fr g hP hpi q6).1]
  df := L2.frL (fun x y hx => VBs.fr g hP (fun t x hd hx => (hpe t hd).trans hx) hx) hr.df
theorem SlotB.keep0 {x : Slot} {y : BSlot} (g : Go1 P G.om G'.om h h') (hP : ∀ t, P t = false) (hpi : ∀ t x, G.pi t = some x → G'.pi t = some x) (hx : SlotB G h x y) : SlotB G' h' x y := by
  cases hx with
  | v hv => exact .v (hv.keep0 g (fun t _ => hP t) hpi)
  | lr => exact .lr
  | nv => exact .nv
  | nn => exact .nn
/-- The same, where nothing that is known changes. -/
theorem RepB.keep0 (hr : RepB G s r) (g : Go1 P G.om G'.om r.hp h') (hP : ∀ t, P t = false) (hpe : ∀ t, G'.pi t = G.pi t) : RepB G' s { r with hp := h' } where
  env := hr.env.imp fun x y _ hx => ⟨hx.1, hx.2.keep0 g hP fun t x hx => (hpe t).trans hx⟩
  sl := fun t y hy => by
    obtain ⟨x, h2, h3⟩ := hr.sl t y hy
    exact ⟨x, h2, h3.keep0 g hP fun t x hx => (hpe t).trans hx⟩
  lo := fun u c hc => by
    obtain ⟨x, h2, h3⟩ := hr.lo u c hc
    exact ⟨x, h2, h3.imp fun a b _ v => v.keep0 g (fun t _ => hP t) fun t x hx => (hpe t).trans hx⟩
  ob := fun t c hc => by
    rcases hr.ob t c hc with z | ⟨a, b, k, ca, q1, q2, q3, q4, q5, q6⟩
    · exact .inl ⟨z.1, z.2.1, (hpe t).trans z.2.2⟩
    exact .inr ⟨a, b, k, ca, (hpe t).trans q1, Nat.lt_of_lt_of_le q2 g.n, (g.get a q2 (hP _)).trans q3, (g.om a q2).trans q4, q5, q6.imp fun a b _ v => v.keep0 g (fun t _ => hP t) fun t x hx => (hpe t).trans hx⟩
  df := hr.df.imp fun x y _ hx => ⟨hx.1, hx.2.imp fun a b _ v => v.keep0 g (fun t _ => hP t) fun t x hx => (hpe t).trans hx⟩

/-- A new block of a tag. -/
def upN {α : Type} (f : Nat → α) (n : Nat) (x : α) : Nat → α := fun a => bif Nat.beq a n then x else f a
theorem upN_eq {α : Type} {f : Nat → α} {n : Nat} {x : α} : upN f n x n = x := by simp [upN]
theorem upN_ne {α : Type} {f : Nat → α} {n a : Nat} {x : α} (h : a ≠ n) : upN f n x a = f a := by simp only [upN, beq_ne h, cond_false]
theorem go_push (P : Nat → Bool) (om : Nat → Nat) (h : Hp) (x : Blk) (t : Nat) : Go1 P om (upN om h.n t) h (h.push x) :=
  ⟨by simp [Hp.push], fun a ha _ => by rw [Hp.get_push, if_neg (by omega)], fun a ha => upN_ne (by omega)⟩
theorem Cg.step {b : Base} (c : Cg b G h) (g : Go1 P G.om G'.om h h') (hP : ∀ a, a < b.hp.n → P (b.om a) = true → b.P (b.om a) = true) (hpi : ∀ t, hi t = true → G'.pi t = G.pi t) : Cg b G' h' where
  ok := c.ok
  go := ⟨Nat.le_trans c.go.n g.n, fun a ha hp => (g.get a (Nat.lt_of_lt_of_le ha c.go.n) (by
    rw [c.go.om a ha]
    cases hh : P (b.om a) with
    | false => rfl
    | true => rw [hP a ha hh] at hp; cases hp)).trans (c.go.get a ha hp), fun a ha => (g.om a (Nat.lt_of_lt_of_le ha c.go.n)).trans (c.go.om a ha)⟩
  pi := fun t ht => (hpi t ht).trans (c.pi t ht)
  old := c.old
/-- A tag of one's own is borne by nothing that was there. -/
theorem Cg.young {b : Base} (c : Cg b G h) {t a : Nat} (ht : loc t = true) (ha : a < b.hp.n) (he : b.om a = t) : False := by
  have := c.ok a ha
  rw [he, ht] at this; cases this
/-- Old memory is not written. -/
theorem Cg.noOld {b : Base} (c : Cg b G h) {k : Nat} (hk : loc k = true ∨ b.P k = true) (o : Old G.om h (2 ^ k)) : False := by
  have h0 := c.go.om 0 c.old.1
  have h1 := o.2.2
  rw [Nat.testBit_two_pow] at h1
  have h2 : k = G.om 0 := of_decide_eq_true h1
  rw [h0] at h2
  rcases hk with hk | hk
  · exact c.young hk c.old.1 h2.symm
  · have := c.old.2; rw [← h2, hk] at this; cases this
end
end Go.Eng

/- ENGINE 40: rules for the operations of a region, over values of the second kind. -/
set_option linter.unusedVariables false
set_option linter.unusedSimpArgs false
namespace Go.Eng
open Go

/-- A load that was made, and would yield the same now; or one that is not asked for. -/
def Pk (T : Nat → Option TI) (ops : List Oper) (r : RS) (i : Nat) : Prop := (∃ o, ops[i]? = some o ∧ want ops r o = some false) ∨ ∃ o t a d x, ops[i]? = some o ∧ want ops r o = some true ∧ o.op = .load t a ∧ o.dst = some d ∧ lk r.env d = some x ∧ rop T r (.load t a) = some x
/-- Does no guard hang on this temporary? -/
def gdN (ops : List Oper) (d : Nat) (o : Oper) : Bool :=
  match o.guard with
  | none => true
  | some (j, _) => (match ops[j]? with
    | some g => (match g.dst with | some e => !Nat.beq d e | none => false)
    | none => false)
def pkN (ops : List Oper) (d i : Nat) : Bool :=
  match ops[i]? with
  | some o => gdN ops d o && (match o.dst with | some e => !Nat.beq e d | none => false) && (match o.op with | .load _ (.tmp a) => !Nat.beq a d | _ => false)
  | none => false
def pkNs (ops : List Oper) (d : Option Nat) : List Nat → Bool
  | [] => true
  | i :: l => (match d with | some d => pkN ops d i | none => true) && pkNs ops d l
def pkS (ops : List Oper) (s : BS) (O : Nat → Bool) (i : Nat) : Bool :=
  match ops[i]? with
  | some o => (match o.op with
    | .load _ a => (match s.slot a with
      | some (.lr _ _) => true
      | some (.v (.ptr t _)) => Nat.blt t 128 && (match lkp s.ob t with | some _ => !O t | none => false)
      | some (.v (.tup [])) => true
      | _ => false)
    | _ => false)
  | none => false
def pkSs (ops : List Oper) (s : BS) (O : Nat → Bool) : List Nat → Bool
  | [] => true
  | i :: l => pkS ops s O i && pkSs ops s O l
/-- The same, where a variable of the frame's own changes. -/
def pkL (ops : List Oper) (s : BS) (d i : Nat) : Bool :=
  match ops[i]? with
  | some o => (match o.op with
    | .load _ a => (match s.slot a with
      | some (.lr u _) => !Nat.beq u d
      | some (.v (.ptr _ _)) => true
      | some (.v (.tup [])) => true
      | _ => false)
    | _ => false)
  | none => false
def pkLs (ops : List Oper) (s : BS) (d : Nat) : List Nat → Bool
  | [] => true
  | i :: l => pkL ops s d i && pkLs ops s d l
def subN : List Nat → List Nat → Bool
  | [], _ => true
  | a :: l, m => mem a m && subN l m

abbrev QN := List (Nat × BSlot) → List (Nat × BSlot) → List (Nat × List BV) → List (Nat × List BV) → List (Nat × List BV) → Prop
abbrev QP := BV → List (Nat × BSlot) → List (Nat × BSlot) → List (Nat × List BV) → List (Nat × List BV) → List (Nat × List BV) → Prop
/-- The run of a region's operations. -/
def XRB (T : Nat → Option TI) (call : CallF) (bx : List Nat) (ops : List Oper) (bs : Base) (pk : List Nat) (l : List (Oper × List Nat)) (s : BS) (Q : QN) (Qp : QP) : Prop :=
  ∀ G r, RepB G s r → Cg bs G r.hp → (∀ i ∈ pk, Pk T ops r i) → ∃ out, runOps T call bx ops l r none = some out ∧ match out with
    | .ok r' _ => ∃ G' s', RepB G' s' r' ∧ Cg bs G' r'.hp ∧ Q s'.sl s'.env s'.lo s'.ob s'.df
    | .panic v r' => ∃ G' s' b, RepB G' s' r' ∧ Cg bs G' r'.hp ∧ VB G' r'.hp v b ∧ Qp b s'.sl s'.env s'.lo s'.ob s'.df
def wantB (ops : List Oper) (env : List (Nat × BSlot)) (o : Oper) : Option Bool :=
  match o.guard with
  | none => some true
  | some (j, b) => match ops[j]? with
    | some g => match g.dst with
      | some d => match lkp env d with
        | some (.v (.bool c)) => some (c == b)
        | some (.v (.tup [])) => some false
        | _ => none
      | none => none
    | none => none

section
variable {T : Nat → Option TI} {ZB : Nat → Option (List BV)} {call : CallF} {bx : List Nat} {ops : List Oper} {bs : Base} {pk pk' : List Nat} {l : List (Oper × List Nat)} {o : Oper} {ws : List Nat} {sl env : List (Nat × BSlot)} {lo ob df : List (Nat × List BV)} {s s' : BS} {Q : QN} {Qp : QP} {d : Nat} {y : BSlot} {v : BV} {G : Gh} {r : RS}

theorem wantB_sound (hr : RepB G s r) {b : Bool} (hw : wantB ops s.env o = some b) : want ops r o = some b := by
  unfold wantB at hw
  unfold want
  split at hw
  · rename_i hg; rw [hg]; exact hw
  · rename_i j b' hg
    split at hw
    · rename_i g hj
      split at hw
      · rename_i e hd
        have he := env_lk hr.env
        split at hw
        · rename_i hl
          obtain ⟨x, h1, h2⟩ := (he _).2 _ hl
          cases h2 with
          | v hv => have := hv.bool; subst this; simp only [hg, hj, hd, h1]; exact hw
        · rename_i hl
          obtain ⟨x, h1, h2⟩ := (he _).2 _ hl
          cases h2 with
          | v hv =>
            obtain ⟨as, rfl, h3⟩ := hv.tup_inv
            have := h3.nil_r; subst this
            simp only [hg, hj, hd, h1]; exact hw
        · cases hw
      · cases hw
    · cases hw
theorem Pk.reck {i : Nat} (h : Pk T ops r i) : reck T ops r [i] = true := by
  rcases h with ⟨o, h1, h2⟩ | ⟨o, t, a, d, x, h1, h2, h3, h4, h5, h6⟩
  · simp only [Eng.reck, h1, h2, Bool.and_self]
  · simp only [Eng.reck, h1, h2, h4, h5, h3, h6, Slot.beq_refl, Bool.and_self]
theorem want_put {o : Oper} {x : Slot} (hg : gdN ops d o = true) : want ops { r with env := (d, x) :: r.env } o = want ops r o := by
  unfold gdN at hg
  unfold want
  split at hg
  · rename_i h; rw [h]
  · rename_i j b h
    rw [h]
    simp only
    split at hg
    · rename_i g hj
      rw [hj]
      simp only
      split at hg
      · rename_i e he
        rw [he]
        simp only [Bool.not_eq_true'] at hg
        simp only [lk, hg, cond_false]
      · cases hg
    · cases hg
theorem pk_reck : ∀ {ws : List Nat}, subN ws pk = true → (∀ i ∈ pk, Pk T ops r i) → reck T ops r ws = true
  | [], _, _ => rfl
  | i :: ws, h, hk => by
    simp only [subN, Bool.and_eq_true] at h
    have h1 := (hk i ((mem_iff _ _).1 h.1)).reck
    simp only [Eng.reck, Bool.and_true] at h1
    simp only [Eng.reck, h1, pk_reck h.2 hk, Bool.and_self]
theorem Pk.put {i : Nat} {x : Slot} (h : Pk T ops r i) (hn : pkN ops d i = true) : Pk T ops { r with env := (d, x) :: r.env } i := by
  rcases h with ⟨o, h1, h2⟩ | ⟨o, t, a, e, z, h1, h2, h3, h4, h5, h6⟩
  · simp only [pkN, h1, Bool.and_eq_true] at hn
    exact .inl ⟨o, h1, (want_put hn.1.1).trans h2⟩
  simp only [pkN, h1, h4, h3, Bool.and_eq_true, Bool.not_eq_true'] at hn
  obtain ⟨⟨n0, n1⟩, n2⟩ := hn
  have e1 : Nat.beq d e = false := beq_ne fun h => by rw [h] at n1; simp at n1
  refine .inr ⟨o, t, a, e, z, h1, by rw [want_put n0]; exact h2, h3, h4, by simp only [lk, e1, cond_false]; exact h5, ?_⟩
  cases a with
  | tmp u =>
    simp only [Bool.not_eq_true'] at n2
    have e2 : Nat.beq d u = false := beq_ne fun h => by rw [h] at n2; simp at n2
    rw [← h6]
    have : RS.slot { r with env := (d, x) :: r.env } (.tmp u) = r.slot (.tmp u) := by simp only [RS.slot, lk, e2, cond_false]
    simp only [rop, rLoad, this]
    split
    · rename_i y _ _
      have : ∀ n, RS.rd { r with env := (d, x) :: r.env } y n = r.rd y n := fun n => by cases y <;> rfl
      rw [this]
    · rfl
  | _ => simp at n2
theorem pk_put {x : Slot} {d : Option Nat} : ∀ {pk : List Nat}, pkNs ops d pk = true → (∀ i ∈ pk, Pk T ops r i) → ∀ i ∈ pk, Pk T ops (r.put d x) i
  | [], _, _ => by simp
  | j :: pk, h, hk => by
    simp only [pkNs, Bool.and_eq_true] at h
    intro i hi
    cases d with
    | none => exact hk i hi
    | some d =>
      rcases List.mem_cons.1 hi with rfl | hi
      · exact (hk i (by simp)).put h.1
      · exact pk_put h.2 (fun i hi => hk i (by simp [hi])) i hi
theorem rd_tup {h : Hp} {w : Slot} {n : Nat} (w2 : SlotB G h w (.v (.tup []))) : r.rd w n = none := by
  cases w2 with
  | v hv =>
    cases hv with
    | sc hs => exact absurd (toA_iff.2 hs) (by simp [toA])
    | tup => rfl
theorem Pk.hp {i : Nat} {h' : Hp} {P : Nat → Bool} {om' : Nat → Nat} {O : Nat → Bool} (hr : RepB G s r) (h : Pk T ops r i) (g : Go1 P G.om om' r.hp h') (hO : ∀ t, O t = false → P (tg t) = false) (hs : pkS ops s O i = true) : Pk T ops { r with hp := h' } i := by
  rcases h with ⟨o, h1, h2⟩ | ⟨o, t, a, e, z, h1, h2, h3, h4, h5, h6⟩
  · exact .inl ⟨o, h1, h2⟩
  refine .inr ⟨o, t, a, e, z, h1, h2, h3, h4, h5, ?_⟩
  have e0 : RS.slot { r with hp := h' } a = r.slot a := by cases a <;> rfl
  simp only [pkS, h1, h3] at hs
  simp only [rop, rLoad] at h6 ⊢
  rw [e0]
  split at hs
  · rename_i hl
    obtain ⟨w, w1, w2⟩ := hr.slot hl
    cases w2
    rw [w1] at h6 ⊢
    split at h6
    · rename_i ti y hT hy
      simp only [Option.some.injEq] at hy
      subst hy
      simp only [hT, RS.rd] at h6 ⊢
      exact h6
    · cases h6
  · rename_i tt off hl
    rw [Bool.and_eq_true] at hs
    obtain ⟨hlt, hs⟩ := hs
    split at hs
    · rename_i c hc
      obtain ⟨w, w1, w2⟩ := hr.slot hl
      cases w2 with
      | v hv =>
        obtain ⟨x, b, rfl, hp⟩ := hv.ptr_inv
        obtain ⟨a', b', k, ca, q1, q2, q3, q4, q5, q6⟩ := (hr.ob tt c hc).lo hlt
        rw [hp] at q1
        simp only [Option.some.injEq, Prod.mk.injEq] at q1
        obtain ⟨rfl, rfl⟩ := q1
        simp only [Bool.not_eq_true'] at hs
        have : h'.get x = r.hp.get x := g.get x q2 (by rw [q4]; exact hO _ hs)
        rw [w1] at h6 ⊢
        split at h6
        · rename_i ti y hT hy
          simp only [Option.some.injEq] at hy
          subst hy
          simp only [hT, RS.rd, this] at h6 ⊢
          exact h6
        · cases h6
    · cases hs
  · rename_i hl
    obtain ⟨w, w1, w2⟩ := hr.slot hl
    rw [w1] at h6
    split at h6
    · rename_i ti y hT hy
      simp only [Option.some.injEq] at hy
      subst hy
      rw [rd_tup w2] at h6
      cases h6
    · cases h6
  · cases hs
theorem pk_hp {h' : Hp} {P : Nat → Bool} {om' : Nat → Nat} {O : Nat → Bool} (hr : RepB G s r) (g : Go1 P G.om om' r.hp h') (hO : ∀ t, O t = false → P (tg t) = false) : ∀ {pk : List Nat}, pkSs ops s O pk = true → (∀ i ∈ pk, Pk T ops r i) → ∀ i ∈ pk, Pk T ops { r with hp := h' } i
  | [], _, _ => by simp
  | j :: pk, h, hk => by
    simp only [pkSs, Bool.and_eq_true] at h
    intro i hi
    rcases List.mem_cons.1 hi with rfl | hi
    · exact Pk.hp hr (hk i (by simp)) g hO h.1
    · exact pk_hp hr g hO h.2 (fun i hi => hk i (by simp [hi])) i hi

theorem Pk.setlo {i : Nat} {c : List AV} (hr : RepB G s r) (h : Pk T ops r i) (hs : pkL ops s d i = true) : Pk T ops { r with lo := setc r.lo d c } i := by
  rcases h with ⟨o, h1, h2⟩ | ⟨o, t, a, e, z, h1, h2, h3, h4, h5, h6⟩
  · exact .inl ⟨o, h1, h2⟩
  refine .inr ⟨o, t, a, e, z, h1, h2, h3, h4, h5, ?_⟩
  have e0 : RS.slot { r with lo := setc r.lo d c } a = r.slot a := by cases a <;> rfl
  simp only [pkL, h1, h3] at hs
  simp only [rop, rLoad] at h6 ⊢
  rw [e0]
  split at hs
  · rename_i u off hl
    obtain ⟨w, w1, w2⟩ := hr.slot hl
    cases w2
    rw [w1] at h6 ⊢
    simp only [Bool.not_eq_true'] at hs
    have hne : u ≠ d := by rintro rfl; simp at hs
    split at h6
    · rename_i ti y hT hy
      simp only [Option.some.injEq] at hy
      subst hy
      simp only [hT, RS.rd, lkc_setc, if_neg hne] at h6 ⊢
      exact h6
    · cases h6
  · rename_i tt off hl
    obtain ⟨w, w1, w2⟩ := hr.slot hl
    cases w2 with
    | v hv =>
      obtain ⟨x, b, rfl, hp⟩ := hv.ptr_inv
      rw [w1] at h6 ⊢
      split at h6
      · rename_i ti y hT hy
        simp only [Option.some.injEq] at hy
        subst hy
        simp only [hT, RS.rd] at h6 ⊢
        exact h6
      · cases h6
  · rename_i hl
    obtain ⟨w, w1, w2⟩ := hr.slot hl
    rw [w1] at h6
    split at h6
    · rename_i ti y hT hy
      simp only [Option.some.injEq] at hy
      subst hy
      rw [rd_tup w2] at h6
      cases h6
    · cases h6
  · cases hs
theorem pk_lo {c : List AV} (hr : RepB G s r) : ∀ {pk : List Nat}, pkLs ops s d pk = true → (∀ i ∈ pk, Pk T ops r i) → ∀ i ∈ pk, Pk T ops { r with lo := setc r.lo d c } i
  | [], _, _ => by simp
  | j :: pk, h, hk => by
    simp only [pkLs, Bool.and_eq_true] at h
    intro i hi
    rcases List.mem_cons.1 hi with rfl | hi
    · exact Pk.setlo hr (hk i (by simp)) h.1
    · exact pk_lo hr h.2 (fun i hi => hk i (by simp [hi])) i hi
theorem RepB.put (hr : RepB G s r) {x : Slot} {y : BSlot} (hx : SlotB G r.hp x y) (d : Nat) : RepB G ⟨s.sl, (d, y) :: s.env, s.lo, s.ob, s.df⟩ (r.put (some d) x) :=
  ⟨.cons ⟨rfl, hx⟩ hr.env, hr.sl, hr.lo, hr.ob, hr.df⟩

theorem xb_end (h : Q sl env lo ob df) : XRB T call bx ops bs pk [] ⟨sl, env, lo, ob, df⟩ Q Qp := fun G r hr hc _ => ⟨_, rfl, G, _, hr, hc, h⟩
/-- One operation, and what comes behind it. -/
theorem xb_step (hw : wantB ops s.env o = some true) (hs : ∀ G r, RepB G s r → Cg bs G r.hp → (∀ i ∈ pk, Pk T ops r i) → ∃ r' G', oop T call bx o r none = some (.ok r' none) ∧ RepB G' s' r' ∧ Cg bs G' r'.hp ∧ ∀ i ∈ pk', Pk T ops r' i)
    (hk : subN ws pk' = true) (h : XRB T call bx ops bs pk' l s' Q Qp) : XRB T call bx ops bs pk ((o, ws) :: l) s Q Qp := by
  intro G r hr hc hp
  obtain ⟨r', G', h1, h2, h3, h4⟩ := hs G r hr hc hp
  simp only [runOps, wantB_sound hr hw, h1, pk_reck hk h4, if_true]
  exact h G' r' h2 h3 h4
theorem xb_skip (hw : wantB ops env o = some false) (hd : o.dst = some d) (hn : pkNs ops o.dst pk = true) (h : XRB T call bx ops bs pk l ⟨sl, (d, .v (.tup [])) :: env, lo, ob, df⟩ Q Qp) : XRB T call bx ops bs pk ((o, ws) :: l) ⟨sl, env, lo, ob, df⟩ Q Qp := by
  intro G r hr hc hp
  simp only [runOps, wantB_sound hr hw]
  have hp' := pk_put (x := .v undefA) hn hp
  rw [hd] at hp' ⊢
  exact h G _ (hr.put (x := .v undefA) (.v (.tup rfl fun i x y hx => by simp at hx)) d) hc hp'
/-- An operation that is not asked for, and that is looked at again. -/
theorem xb_skipL {i : Nat} (hw : wantB ops env o = some false) (hd : o.dst = some d) (hn : pkNs ops o.dst pk = true) (hx : ops[i]? = some o) (hg : gdN ops d o = true) (h : XRB T call bx ops bs (i :: pk) l ⟨sl, (d, .v (.tup [])) :: env, lo, ob, df⟩ Q Qp) : XRB T call bx ops bs pk ((o, ws) :: l) ⟨sl, env, lo, ob, df⟩ Q Qp := by
  intro G r hr hc hp
  have hw' := wantB_sound hr hw
  simp only [runOps, hw']
  have hp' := pk_put (x := .v undefA) hn hp
  rw [hd] at hp' ⊢
  refine h G _ (hr.put (x := .v undefA) (.v (.tup rfl fun i x y hx => by simp at hx)) d) hc fun j hj => ?_
  rcases List.mem_cons.1 hj with rfl | hj
  · exact .inl ⟨o, hx, (want_put hg).trans hw'⟩
  · exact hp' j hj
theorem xb_skip0 (hw : wantB ops env o = some false) (hd : o.dst = none) (h : XRB T call bx ops bs pk l ⟨sl, env, lo, ob, df⟩ Q Qp) : XRB T call bx ops bs pk ((o, ws) :: l) ⟨sl, env, lo, ob, df⟩ Q Qp := by
  intro G r hr hc hp
  simp only [runOps, wantB_sound hr hw, hd, RS.put]
  exact h G _ hr hc hp
theorem oop_rop {op : Op} {x : Slot} (ho : o.op = op) (hi : isRop op = true) (h1 : rop T r op = some x) : oop T call bx o r none = some (.ok (r.put o.dst x) none) := by
  subst ho
  unfold oop
  split
  all_goals first
    | (rename_i ho; rw [ho] at hi; simp [isRop] at hi; done)
    | skip
  · rename_i c hc
    rw [hc] at hi h1
    simp only [isRop] at hi
    simp only [rop, rCall] at h1
    unfold oCall
    split at hi
    · rename_i hcc; rw [hcc] at h1; simp only [hcc, oBuiltin, h1, oR]
    · rename_i hcc; rw [hcc] at h1; simp only [hcc, oBuiltin, h1, oR]
    · rename_i hcc; rw [hcc] at h1; simp only [hcc, oBuiltin, h1, oR]
    · cases hi
  · simp only [h1, oR]
theorem xb_pure (hw : wantB ops env o = some true) (hp1 : POpB T ⟨sl, env, lo, ob, df⟩ o.op y) (hi : isRop o.op = true) (hd : o.dst = some d) (hn : pkNs ops o.dst pk = true) (hk : ws = []) (h : XRB T call bx ops bs pk l ⟨sl, (d, y) :: env, lo, ob, df⟩ Q Qp) : XRB T call bx ops bs pk ((o, ws) :: l) ⟨sl, env, lo, ob, df⟩ Q Qp := by
  subst hk
  refine xb_step (pk' := pk) hw (fun G r hr hc hp => ?_) rfl h
  obtain ⟨x, h1, h2⟩ := hp1 G r hr
  refine ⟨r.put o.dst x, G, oop_rop rfl hi h1, by rw [hd]; exact hr.put h2 d, by rw [hd]; exact hc, pk_put hn hp⟩
/-- A load that is looked at again. -/
theorem xb_look {i t a : Nat} (hw : wantB ops env o = some true) (hp1 : POpB T ⟨sl, env, lo, ob, df⟩ o.op y) (ho : o.op = .load t (.tmp a)) (hg : gdN ops d o = true) (hd : o.dst = some d) (hn : pkNs ops o.dst pk = true) (hx : ops[i]? = some o) (hda : Nat.beq d a = false) (hk : ws = []) (h : XRB T call bx ops bs (i :: pk) l ⟨sl, (d, y) :: env, lo, ob, df⟩ Q Qp) : XRB T call bx ops bs pk ((o, ws) :: l) ⟨sl, env, lo, ob, df⟩ Q Qp := by
  subst hk
  refine xb_step (pk' := i :: pk) hw (fun G r hr hc hp => ?_) rfl h
  obtain ⟨x, h1, h2⟩ := hp1 G r hr
  refine ⟨r.put o.dst x, G, oop_rop rfl (by rw [ho]; rfl) h1, by rw [hd]; exact hr.put h2 d, by rw [hd]; exact hc, fun j hj => ?_⟩
  rcases List.mem_cons.1 hj with rfl | hj
  · refine .inr ⟨o, t, .tmp a, d, x, hx, by rw [hd]; exact (want_put hg).trans (wantB_sound hr hw), ho, hd, by rw [hd]; simp [RS.put, lk], ?_⟩
    rw [ho] at h1
    rw [hd, ← h1]
    have : RS.slot (r.put (some d) x) (.tmp a) = r.slot (.tmp a) := by simp only [RS.slot, RS.put, lk, hda, cond_false]
    simp only [rop, rLoad, this]
    split
    · rename_i y _ _
      have : ∀ n, RS.rd (r.put (some d) x) y n = r.rd y n := fun n => by cases y <;> rfl
      rw [this]
    · rfl
  · exact pk_put hn hp j hj
/-- Some operations that only read, one behind another. -/
def runB (T : Nat → Option TI) (ZB : Nat → Option (List BV)) (ops : List Oper) (pk : List Nat) (sl : List (Nat × BSlot)) (lo ob df : List (Nat × List BV)) : Nat → List (Oper × List Nat) → List (Nat × BSlot) → Option (List (Nat × BSlot))
  | 0, _, env => some env
  | n + 1, ((o, []) :: l), env => (match wantB ops env o, o.dst, isRop o.op with
    | some true, some d, true => bif pkNs ops (some d) pk then (match ropB T ZB ⟨sl, env, lo, ob, df⟩ o.type o.op with | some y => runB T ZB ops pk sl lo ob df n l ((d, y) :: env) | none => none) else none
    | some false, some d, _ => bif pkNs ops (some d) pk then runB T ZB ops pk sl lo ob df n l ((d, .v (.tup [])) :: env) else none
    | _, _, _ => none)
  | _, _, _ => none
theorem xb_run : ∀ (ZB : Nat → Option (List BV)) (n : Nat) {l l' : List (Oper × List Nat)} {env env' : List (Nat × BSlot)}, runB T ZB ops pk sl lo ob df n l env = some env' → l.drop n = l' → XRB T call bx ops bs pk l' ⟨sl, env', lo, ob, df⟩ Q Qp → XRB T call bx ops bs pk l ⟨sl, env, lo, ob, df⟩ Q Qp
  | ZB, 0, l, l', env, env', h, hl, hx => by
    simp only [runB, Option.some.injEq] at h
    simp only [List.drop_zero] at hl
    subst h; subst hl; exact hx
  | ZB, n + 1, [], l', env, env', h, hl, hx => by simp [runB] at h
  | ZB, n + 1, (o, []) :: l, l', env, env', h, hl, hx => by
    simp only [runB] at h
    split at h
    · rename_i d hg hd hi
      cases hn : pkNs ops (some d) pk with
      | false => rw [hn] at h; cases h
      | true =>
        rw [hn] at h
        simp only [cond_true] at h
        split at h
        · rename_i y hy
          exact xb_pure hg (ropB_sound hy) hi hd (by rw [hd]; exact hn) rfl (xb_run ZB n h hl hx)
        · cases h
    · rename_i d hg hd
      cases hn : pkNs ops (some d) pk with
      | false => rw [hn] at h; cases h
      | true =>
        rw [hn] at h
        exact xb_skip hg hd (by rw [hd]; exact hn) (xb_run ZB n h hl hx)
    · cases h
  | ZB, n + 1, (o, w :: ws) :: l, l', env, env', h, hl, hx => by simp [runB] at h
/-- What was looked at needs no second look. -/
theorem xb_pk0 (h : XRB T call bx ops bs [] l s Q Qp) : XRB T call bx ops bs pk l s Q Qp := fun G r hr hc _ => h G r hr hc fun i hi => by simp at hi
end
end Go.Eng

/- ENGINE 41: rules for operations that write or make memory, over values of the second kind. -/
set_option linter.unusedVariables false
set_option linter.unusedSimpArgs false
namespace Go.Eng
open Go

def staleB (t : Nat) : List (Nat × BSlot) → Bool
  | [] => false
  | (_, .lr u _) :: l => Nat.beq u t || staleB t l
  | _ :: l => staleB t l
/-- May a cell lie in a row whose memory bears no other tags than these? -/
def BV.plain (m : Nat) : BV → Bool
  | .bool _ | .int _ _ | .str _ | .nilp | .nilfn | .nilif => true
  | .ls _ _ own m' => Nat.beq (tagm own m' ||| m) m
  | _ => false
def BV.bare : BV → BV
  | .ls es sz _ _ => .ls es sz 0 0
  | v => v
def chunkB (sz : Nat) : Nat → List BV → List (List BV)
  | 0, _ => []
  | n + 1, cs => cs.take sz :: chunkB sz n (cs.drop sz)
def zerosB (z : List BV) : Nat → List BV
  | 0 => []
  | n + 1 => z ++ zerosB z n

section
variable {T : Nat → Option TI} {ZB : Nat → Option (List BV)} {call : CallF} {bx : List Nat} {ops : List Oper} {bs : Base} {pk pk' : List Nat} {l : List (Oper × List Nat)} {o : Oper} {ws : List Nat} {sl env : List (Nat × BSlot)} {lo ob df : List (Nat × List BV)} {s s' : BS} {Q : QN} {Qp : QP} {d : Nat} {y : BSlot} {v : BV} {G G' : Gh} {r : RS} {h h' : Hp}

theorem staleB_sound {t : Nat} : ∀ {m : List (Nat × BSlot)} {l : List (Nat × Slot)}, L2 (fun x y => x.1 = y.1 ∧ SlotB G h x.2 y.2) l m → staleB t m = false → stale t l = false
  | [], l, hl, _ => by rw [hl.nil_r]; rfl
  | (u, b) :: m, l, hl, hs => by
    obtain ⟨⟨u', a⟩, l', rfl, ⟨h1, h2⟩, h3⟩ := hl.cons_r
    have key : staleB t m = false → stale t l' = false := staleB_sound h3
    simp only [stale, List.any_cons, Bool.or_eq_false_iff] at key ⊢
    cases h2 with
    | lr =>
      simp only [staleB, Bool.or_eq_false_iff] at hs
      exact ⟨hs.1, key hs.2⟩
    | v _ => exact ⟨rfl, key hs⟩
    | nv => exact ⟨rfl, key hs⟩
    | nn => exact ⟨rfl, key hs⟩
theorem lkp_setp {α : Type} (t u : Nat) (c : α) : ∀ l : List (Nat × α), lkp (setp l t c) u = if u = t then some c else lkp l u
  | [] => by
    simp only [setp, lkp]
    by_cases h : u = t
    · subst h; simp
    · rw [beq_ne (fun e => h e.symm), cond_false, if_neg h]
  | (w, x) :: l => by
    simp only [setp]
    cases hw : Nat.beq w t with
    | true =>
      have := Nat.eq_of_beq_eq_true hw
      subst this
      simp only [cond_true, lkp]
      by_cases h : u = w
      · subst h; simp
      · rw [beq_ne (fun e => h e.symm), cond_false, cond_false, if_neg h]
    | false =>
      have hne : w ≠ t := by rintro rfl; simp at hw
      simp only [cond_false, lkp, lkp_setp t u c l]
      by_cases h : u = t
      · subst h; rw [beq_ne hne, cond_false]; simp
      · simp only [if_neg h]
theorem RepB.setlo (hr : RepB G s r) {u : Nat} {c : List BV} {ca : List AV} (hc : VBs G r.hp ca c) : RepB G ⟨s.sl, s.env, setp s.lo u c, s.ob, s.df⟩ { r with lo := setc r.lo u ca } :=
  ⟨hr.env, hr.sl, fun t d hd => by
    simp only [lkp_setp] at hd
    simp only [lkc_setc]
    split at hd
    · rename_i ht; simp only [Option.some.injEq] at hd; subst hd; rw [if_pos ht]; exact ⟨ca, rfl, hc⟩
    · rename_i ht; rw [if_neg ht]; exact hr.lo t d hd, hr.ob, hr.df⟩
theorem xb_allocL {e : Nat} {ti : TI} (zs : List BV) (hw : wantB ops env o = some true) (ho : o.op = .alloc e) (hd : o.dst = some d) (hT : T e = some ti) (hz : zEq ti.zero zs = true) (hm : mem d bx = true) (hst : staleB d env = false) (hs : pkLs ops ⟨sl, env, lo, ob, df⟩ d pk = true) (hn : pkNs ops o.dst pk = true) (hk : subN ws pk = true)
    (h : XRB T call bx ops bs pk l ⟨sl, (d, .lr d 0) :: env, setp lo d zs, ob, df⟩ Q Qp) : XRB T call bx ops bs pk ((o, ws) :: l) ⟨sl, env, lo, ob, df⟩ Q Qp := by
  refine xb_step (pk' := pk) hw (fun G r hr hc hp => ?_) hk h
  refine ⟨{ r with env := (d, .lr d 0) :: r.env, lo := setc r.lo d ti.zero }, G, by simp only [oop, ho, oAlloc, hT, newVar, hd, hm, if_true, staleB_sound hr.env hst, Bool.false_eq_true, if_false, Option.map_some], ?_, hc, by
    have := pk_put (x := .lr d 0) hn (pk_lo (c := ti.zero) hr hs hp)
    rw [hd] at this; exact this⟩
  exact (hr.setlo (u := d) (zEq_sound hz)).put (x := .lr d 0) .lr d
theorem xb_boxL {e : Nat} {ti : TI} {x : Operand} (hw : wantB ops env o = some true) (ho : o.op = .box e x) (hd : o.dst = some d) (hT : T e = some ti) (hv : BS.valT ZB ⟨sl, env, lo, ob, df⟩ e x = some v) (h1 : v.cells.all BV.one = true) (hm : mem d bx = true) (hst : staleB d env = false) (hs : pkLs ops ⟨sl, env, lo, ob, df⟩ d pk = true) (hn : pkNs ops o.dst pk = true) (hk : subN ws pk = true)
    (h : XRB T call bx ops bs pk l ⟨sl, (d, .lr d 0) :: env, setp lo d v.cells, ob, df⟩ Q Qp) : XRB T call bx ops bs pk ((o, ws) :: l) ⟨sl, env, lo, ob, df⟩ Q Qp := by
  refine xb_step (pk' := pk) hw (fun G r hr hc hp => ?_) hk h
  obtain ⟨a, a1, a2⟩ := hr.valT hv
  obtain ⟨c1, c2⟩ := a2.cells h1
  refine ⟨{ r with env := (d, .lr d 0) :: r.env, lo := setc r.lo d a.cells }, G, by simp only [oop, ho, oBox, hT, a1, c2, cond_true, newVar, hd, hm, if_true, staleB_sound hr.env hst, Bool.false_eq_true, if_false, Option.map_some], ?_, hc, by
    have := pk_put (x := .lr d 0) hn (pk_lo (c := a.cells) hr hs hp)
    rw [hd] at this; exact this⟩
  exact (hr.setlo (u := d) c1).put (x := .lr d 0) .lr d
theorem xb_storeL {t u off : Nat} {a x : Operand} {ti : TI} {c c' : List BV} (hw : wantB ops env o = some true) (ho : o.op = .store t a x) (hd : o.dst = none) (hT : T t = some ti) (ha : BS.slot ⟨sl, env, lo, ob, df⟩ a = some (.lr u off)) (hv : BS.valT ZB ⟨sl, env, lo, ob, df⟩ t x = some v)
    (h1 : (Nat.beq v.cells.length ti.size && v.cells.all BV.one) = true) (hl : lkp lo u = some c) (hwr : wrG c off v.cells = some c') (hs : pkLs ops ⟨sl, env, lo, ob, df⟩ u pk = true) (hk : subN ws pk = true)
    (h : XRB T call bx ops bs pk l ⟨sl, env, setp lo u c', ob, df⟩ Q Qp) : XRB T call bx ops bs pk ((o, ws) :: l) ⟨sl, env, lo, ob, df⟩ Q Qp := by
  refine xb_step (pk' := pk) hw (fun G r hr hc hp => ?_) hk h
  obtain ⟨b, b1, b2⟩ := hr.valT hv
  simp only [Bool.and_eq_true] at h1
  obtain ⟨c1, c2⟩ := b2.cells h1.2
  obtain ⟨w, w1, w2⟩ := hr.slot ha
  cases w2
  obtain ⟨ca, d1, d2⟩ := hr.lo u c hl
  obtain ⟨ca', e1, e2⟩ := d2.wr c1 hwr
  have hall : (Nat.beq b.cells.length ti.size && b.cells.all AV.one) = true := by rw [c1.1, h1.1, c2]; rfl
  refine ⟨{ r with lo := setc r.lo u ca' }, G, by simp only [oop, ho, oStore, hT, w1, b1, hall, cond_true, RS.wrt, d1, wr_eq, e1, Option.map_some, hd, RS.put], hr.setlo e2, hc, pk_lo hr hs hp⟩
theorem part_wr {cells cs vs cs' : List AV} {b n o : Nat} (hp : partG cells b n = some cs) (hw : wrG cs o vs = some cs') : ∃ c', wrG cells (b + o) vs = some c' ∧ partG c' b n = some cs' ∧ c'.length = cells.length := by
  rw [partG_some] at hp
  rw [wrG_some] at hw
  obtain ⟨p1, p2⟩ := hp
  obtain ⟨w1, w2⟩ := hw
  have l1 : cs.length = n := by rw [p2]; simp; omega
  have lA : (cells.take b).length = b := by simp; omega
  have e0 : cells = cells.take b ++ (cs ++ cells.drop (b + n)) := by
    rw [p2, ← List.drop_drop, List.take_append_drop, List.take_append_drop]
  generalize cells.take b = A at e0 lA
  generalize cells.drop (b + n) = C at e0
  subst e0
  have l2 : cs'.length = n := by rw [w2]; simp; omega
  have e1 : (A ++ (cs ++ C)).take (b + o) = A ++ cs.take o := by
    rw [List.take_append, List.take_of_length_le (by omega), show b + o - A.length = o from by omega, List.take_append_of_le_length (by omega)]
  have e2 : (A ++ (cs ++ C)).drop (b + o + vs.length) = cs.drop (o + vs.length) ++ C := by
    rw [List.drop_append, List.drop_eq_nil_of_le (by omega), List.nil_append, show b + o + vs.length - A.length = o + vs.length from by omega, List.drop_append_of_le_length (by omega)]
  have e3 : (A ++ (cs ++ C)).take (b + o) ++ vs ++ (A ++ (cs ++ C)).drop (b + o + vs.length) = A ++ (cs' ++ C) := by
    rw [e1, e2, w2]; simp only [List.append_assoc]
  refine ⟨A ++ (cs' ++ C), wrG_some.2 ⟨by simp; omega, e3.symm⟩, ?_, by simp; omega⟩
  rw [partG_some]
  refine ⟨by simp; omega, ?_⟩
  rw [List.drop_append, List.drop_eq_nil_of_le (by omega), List.nil_append, show b - A.length = 0 from by omega, List.drop_zero, List.take_append_of_le_length (by omega), List.take_of_length_le (by omega)]
/-- An object's change. -/
theorem RepB.setob (hr : RepB G s r) {τ off : Nat} {c c' us : List BV} {vs : List AV} (hl : lkp s.ob τ = some c) (hvs : VBs G r.hp vs us) (hwr : wrG c off us = some c') {a b : Nat} (hpi : G.pi τ = some (a, b)) (hlt : Nat.blt τ 128 = true) :
    ∃ k ca, r.hp.get a = some k ∧ wrG k.cells (b + off) vs = some ca ∧ Go1 (fun t => Nat.beq t (1000 + τ)) G.om G.om r.hp (r.hp.put a ⟨k.ty, ca⟩) ∧ RepB G ⟨s.sl, s.env, s.lo, setp s.ob τ c', s.df⟩ { r with hp := r.hp.put a ⟨k.ty, ca⟩ } := by
  obtain ⟨a', b', k, cs, q1, q2, q3, q4, q5, q6⟩ := (hr.ob τ c hl).lo hlt
  have hlt' : τ < 128 := by rw [Nat.blt, Nat.ble_eq] at hlt; omega
  rw [tg_lo hlt'] at q4
  rw [hpi] at q1
  simp only [Option.some.injEq, Prod.mk.injEq] at q1
  obtain ⟨rfl, rfl⟩ := q1
  obtain ⟨cs', e1, e2⟩ := q6.wr hvs hwr
  obtain ⟨ca, f1, f2, f3⟩ := part_wr q5 e1
  have g : Go1 (fun t => Nat.beq t (1000 + τ)) G.om G.om r.hp (r.hp.put a ⟨k.ty, ca⟩) := ⟨Nat.le_refl _, fun x hx hq => by
    rw [Hp.get_put, if_neg]
    rintro rfl
    rw [q4] at hq; simp at hq, fun _ _ => rfl⟩
  have hP : ∀ t, t < 1000 → (fun t => Nat.beq t (1000 + τ)) t = false := fun t ht => beq_ne (by omega)
  have kv : ∀ {x y}, VB G r.hp x y → VB G (r.hp.put a ⟨k.ty, ca⟩) x y := fun v => v.keep0 g hP fun _ _ h => h
  have ks : ∀ {x y}, SlotB G r.hp x y → SlotB G (r.hp.put a ⟨k.ty, ca⟩) x y := fun v => by
    cases v with
    | v hv => exact .v (kv hv)
    | lr => exact .lr
    | nv => exact .nv
    | nn => exact .nn
  refine ⟨k, ca, q3, f1, g, ?_⟩
  refine ⟨hr.env.imp fun x y _ hx => ⟨hx.1, ks hx.2⟩, fun t y hy => ?_, fun u c hc => ?_, fun t c hc => ?_, hr.df.imp fun x y _ hx => ⟨hx.1, hx.2.imp fun _ _ _ => kv⟩⟩
  · obtain ⟨x, x1, x2⟩ := hr.sl t y hy; exact ⟨x, x1, ks x2⟩
  · obtain ⟨x, x1, x2⟩ := hr.lo u c hc; exact ⟨x, x1, x2.imp fun _ _ _ => kv⟩
  · simp only [lkp_setp] at hc
    split at hc
    · rename_i ht
      simp only [Option.some.injEq] at hc; subst hc; subst ht
      have hlen : c'.length = c.length := by
        rw [wrG_some] at hwr
        rw [hwr.2]; have := hwr.1
        simp; omega
      exact .inr ⟨a, b, ⟨k.ty, ca⟩, cs', hpi, q2, by rw [Hp.get_put, if_pos rfl], by rw [tg_lo hlt']; exact q4, by rw [hlen]; exact f2, e2.imp fun _ _ _ => kv⟩
    · rename_i ht
      rcases hr.ob t c hc with z | ⟨a2, b2, k2, c2, z1, z2, z3, z4, z5, z6⟩
      · exact .inl z
      refine .inr ⟨a2, b2, k2, c2, z1, z2, ?_, z4, z5, z6.imp fun _ _ _ => kv⟩
      rw [Hp.get_put, if_neg]
      · exact z3
      · rintro rfl; rw [q4, ← tg_lo hlt'] at z4; exact ht (tg_inj z4).symm
theorem xb_storeO {t τ off : Nat} {a x : Operand} {ti : TI} {c c' : List BV} (hw : wantB ops env o = some true) (ho : o.op = .store t a x) (hd : o.dst = none) (hT : T t = some ti) (ha : BS.slot ⟨sl, env, lo, ob, df⟩ a = some (.v (.ptr τ off))) (hv : BS.valT ZB ⟨sl, env, lo, ob, df⟩ t x = some v)
    (h1 : (Nat.beq v.cells.length ti.size && v.cells.all BV.one) = true) (hl : lkp ob τ = some c) (hwr : wrG c off v.cells = some c') (hP : loc (1000 + τ) = true ∨ bs.P (1000 + τ) = true) (hk : ws = [])
    (h : XRB T call bx ops bs [] l ⟨sl, env, lo, setp ob τ c', df⟩ Q Qp) (hlt : Nat.blt τ 128 = true := by rfl) : XRB T call bx ops bs pk ((o, ws) :: l) ⟨sl, env, lo, ob, df⟩ Q Qp := by
  subst hk
  refine xb_step (pk' := []) hw (fun G r hr hc hp => ?_) rfl h
  obtain ⟨b, b1, b2⟩ := hr.valT hv
  simp only [Bool.and_eq_true] at h1
  obtain ⟨c1, c2⟩ := b2.cells h1.2
  obtain ⟨w, w1, w2⟩ := hr.slot ha
  cases w2 with
  | v hv2 =>
    obtain ⟨a0, b0, rfl, hpi⟩ := hv2.ptr_inv
    obtain ⟨k, ca, q1, q2, q3, q4⟩ := hr.setob hl c1 hwr hpi hlt
    have hall : (Nat.beq b.cells.length ti.size && b.cells.all AV.one) = true := by rw [c1.1, h1.1, c2]; rfl
    refine ⟨{ r with hp := r.hp.put a0 ⟨k.ty, ca⟩ }, G, by simp only [oop, ho, oStore, hT, w1, b1, hall, cond_true, RS.wrt, q1, wr_eq, q2, Option.map_some, hd, RS.put], q4, hc.step q3 (fun a ha hq => ?_) (fun _ _ => rfl), fun i hi => by simp at hi⟩
    have he := Nat.eq_of_beq_eq_true hq
    rcases hP with hP | hP
    · exact (hc.young hP ha he).elim
    · rw [he]; exact hP
theorem zEq_any (G : Gh) (h : Hp) {l : List AV} {m : List BV} (hz : zEq l m = true) : VBs G h l m := zEq_sound hz
/-- A new object: its name, and what is there. -/
theorem newO {τ e : Nat} {cs : List BV} {ca : List AV} (hτ : (Nat.ble 1 τ && Nat.ble τ 62) = true) (hr : RepB G s r) (hc : Cg bs G r.hp) (hv : VBs ⟨upN G.om r.hp.n (1000 + τ), upN G.pi τ (some (r.hp.n, 0))⟩ (r.hp.push ⟨e, ca⟩) ca cs) :
    RepB ⟨upN G.om r.hp.n (1000 + τ), upN G.pi τ (some (r.hp.n, 0))⟩ ⟨frS 0 (2 ^ τ) s.sl, frS 0 (2 ^ τ) s.env, frL 0 (2 ^ τ) s.lo, (τ, cs) :: frO 0 (2 ^ τ) (fun _ => false) s.ob, frL 0 (2 ^ τ) s.df⟩ { r with hp := r.hp.push ⟨e, ca⟩ }
    ∧ Cg bs ⟨upN G.om r.hp.n (1000 + τ), upN G.pi τ (some (r.hp.n, 0))⟩ (r.hp.push ⟨e, ca⟩) := by
  have g : Go1 (fun _ => false) G.om (upN G.om r.hp.n (1000 + τ)) r.hp (r.hp.push ⟨e, ca⟩) := go_push ..
  have hpi : ∀ t, (2 ^ τ).testBit t = false → upN G.pi τ (some (r.hp.n, 0)) t = G.pi t := fun t ht => by
    rw [upN_ne]
    rintro rfl; simp [Nat.testBit_two_pow_self] at ht
  simp only [Bool.and_eq_true, Nat.ble_eq] at hτ
  refine ⟨?_, hc.step g (fun a ha hq => by cases hq) (fun t ht => by show upN G.pi τ _ t = _; rw [upN_ne (by have := hi_64 ht; omega)])⟩
  have hf := hr.fr (G' := ⟨upN G.om r.hp.n (1000 + τ), upN G.pi τ (some (r.hp.n, 0))⟩) (U := 0) (D := 2 ^ τ) (O := fun _ => false) g (fun t _ hq => by cases hq) (fun t _ => rfl) hpi
  refine ⟨hf.env, hf.sl, hf.lo, fun t c hc => ?_, hf.df⟩
  simp only [lkp] at hc
  cases ht : Nat.beq τ t with
  | true =>
    have := Nat.eq_of_beq_eq_true ht
    subst this
    rw [ht] at hc
    simp only [cond_true, Option.some.injEq] at hc; subst hc
    refine .inr ⟨r.hp.n, 0, ⟨e, ca⟩, ca, upN_eq, by simp [Hp.push], by rw [Hp.get_push, if_pos rfl], by rw [tg_lo (by omega)]; exact upN_eq, ?_, hv⟩
    rw [partG_some]
    exact ⟨by have := hv.1; simp; omega, by rw [List.drop_zero, List.take_of_length_le (by have := hv.1; simp; omega)]⟩
  | false =>
    rw [ht] at hc
    exact hf.ob t c hc
theorem xb_allocO {e : Nat} {ti : TI} (τ : Nat) (zs : List BV) (hw : wantB ops env o = some true) (ho : o.op = .alloc e) (hd : o.dst = some d) (hT : T e = some ti) (hz : zEq ti.zero zs = true) (hm : mem d bx = false) (hτ : (Nat.ble 1 τ && Nat.ble τ 62) = true) (hs : pkSs ops ⟨sl, env, lo, ob, df⟩ (fun _ => false) pk = true) (hn : pkNs ops o.dst pk = true) (hk : subN ws pk = true)
    (h : XRB T call bx ops bs pk l ⟨frS 0 (2 ^ τ) sl, (d, .v (.ptr τ 0)) :: frS 0 (2 ^ τ) env, frL 0 (2 ^ τ) lo, (τ, zs) :: frO 0 (2 ^ τ) (fun _ => false) ob, frL 0 (2 ^ τ) df⟩ Q Qp) : XRB T call bx ops bs pk ((o, ws) :: l) ⟨sl, env, lo, ob, df⟩ Q Qp := by
  refine xb_step (pk' := pk) hw (fun G r hr hc hp => ?_) hk h
  obtain ⟨n1, n2⟩ := newO (e := e) (ca := ti.zero) hτ hr hc (zEq_sound hz)
  refine ⟨{ r with env := (d, .v (.ptr r.hp.n 0)) :: r.env, hp := r.hp.push ⟨e, ti.zero⟩ }, _, by simp only [oop, ho, oAlloc, hT, newVar, hd, hm, Bool.false_eq_true, if_false, Option.map_some], n1.put (x := .v (.ptr r.hp.n 0)) (.v (.ptr (b := 0) (o := 0) upN_eq)) d, n2, ?_⟩
  have := pk_put (x := .v (.ptr r.hp.n 0)) hn (pk_hp hr (go_push (fun _ => false) G.om r.hp ⟨e, ti.zero⟩ 0) (fun _ _ => rfl) hs hp)
  rw [hd] at this
  exact this
theorem xb_boxO {e : Nat} {ti : TI} {x : Operand} (τ : Nat) (hw : wantB ops env o = some true) (ho : o.op = .box e x) (hd : o.dst = some d) (hT : T e = some ti) (hv : BS.valT ZB ⟨sl, env, lo, ob, df⟩ e x = some v) (h1 : v.cells.all BV.one = true) (hf : BV.free.frees 0 (2 ^ τ) v.cells = true) (hm : mem d bx = false) (hτ : (Nat.ble 1 τ && Nat.ble τ 62) = true) (hs : pkSs ops ⟨sl, env, lo, ob, df⟩ (fun _ => false) pk = true) (hn : pkNs ops o.dst pk = true) (hk : subN ws pk = true)
    (h : XRB T call bx ops bs pk l ⟨frS 0 (2 ^ τ) sl, (d, .v (.ptr τ 0)) :: frS 0 (2 ^ τ) env, frL 0 (2 ^ τ) lo, (τ, v.cells) :: frO 0 (2 ^ τ) (fun _ => false) ob, frL 0 (2 ^ τ) df⟩ Q Qp) : XRB T call bx ops bs pk ((o, ws) :: l) ⟨sl, env, lo, ob, df⟩ Q Qp := by
  refine xb_step (pk' := pk) hw (fun G r hr hc hp => ?_) hk h
  obtain ⟨a, a1, a2⟩ := hr.valT hv
  obtain ⟨c1, c2⟩ := a2.cells h1
  have hv' : VBs ⟨upN G.om r.hp.n (1000 + τ), upN G.pi τ (some (r.hp.n, 0))⟩ (r.hp.push ⟨e, a.cells⟩) a.cells v.cells := VBs.keep (U := 0) (D := 2 ^ τ) (go_push (fun _ => false) ..) (fun t _ hq => by cases hq) (fun t x ht hx => by
    show upN G.pi τ _ t = _
    rw [upN_ne]
    · exact hx
    · rintro rfl; simp [Nat.testBit_two_pow_self] at ht) c1 hf
  obtain ⟨n1, n2⟩ := newO (e := e) (ca := a.cells) hτ hr hc hv'
  refine ⟨{ r with env := (d, .v (.ptr r.hp.n 0)) :: r.env, hp := r.hp.push ⟨e, a.cells⟩ }, _, by simp only [oop, ho, oBox, hT, a1, c2, cond_true, newVar, hd, hm, Bool.false_eq_true, if_false, Option.map_some], n1.put (x := .v (.ptr r.hp.n 0)) (.v (.ptr (b := 0) (o := 0) upN_eq)) d, n2, ?_⟩
  have := pk_put (x := .v (.ptr r.hp.n 0)) hn (pk_hp hr (go_push (fun _ => false) G.om r.hp ⟨e, a.cells⟩ 0) (fun _ _ => rfl) hs hp)
  rw [hd] at this
  exact this

/-! #### Rows -/
theorem tagm_lt {own m t : Nat} (h0 : own = 0 → m.testBit t = true) (h1 : own ≠ 0 → t + 1 = own) : (tagm own m).testBit t = true := tagm_own h0 h1
theorem or_sub {a b t : Nat} (h : a ||| b = b) (ht : a.testBit t = true) : b.testBit t = true := by
  rw [← h, Nat.testBit_or, ht, Bool.true_or]
theorem VB.bare {m : Nat} {a : AV} {b : BV} (v : VB G h a b) (hp : b.plain m = true) : VN G.om h m a b.bare := by
  cases v with
  | sc hs =>
    have : b.bare = b := by cases a <;> simp [scB] at hs <;> subst hs <;> rfl
    rw [this]; exact .sc hs
  | lsN => exact .lsN
  | lsA ha hk hq hm ho hl hs hp' hr =>
    simp only [BV.plain] at hp
    have hs' := fun t => or_sub (t := t) (Nat.eq_of_beq_eq_true hp)
    exact .lsA ha hk ⟨hq, hs' _ (tagm_own hm ho)⟩ hl hs hp' hr.1 fun i x y hx hy => (hr.2 i x y hx hy).weak fun t ht => hs' t (tagm_sub ht)
  | lsO hm hl hs1 hs hr =>
    simp only [BV.plain] at hp
    have hs' := fun t => or_sub (t := t) (Nat.eq_of_beq_eq_true hp)
    exact .lsO (hm.weak fun t ht => hs' t (tagm_sub ht)) hl hs1 hs hr.1 fun i x y hx hy => (hr.2 i x y hx hy).weak fun t ht => hs' t (tagm_sub ht)
  | _ => simp [BV.plain] at hp
theorem VBs.bare {m : Nat} {l : List AV} {cs : List BV} (v : VBs G h l cs) (hp : cs.all (BV.plain m) = true) : VNs G.om h m l (cs.map BV.bare) :=
  v.map_r fun a b hb hv => VB.bare hv (by rw [List.all_eq_true] at hp; exact hp b hb)
theorem chunkB_flat (sz : Nat) : ∀ (n : Nat) (cs : List BV), cs.length = n * sz → (chunkB sz n cs).flatten = cs ∧ (∀ r ∈ chunkB sz n cs, r.length = sz) ∧ (chunkB sz n cs).length = n
  | 0, cs, h => by
    have : cs = [] := List.eq_nil_of_length_eq_zero (by simpa using h)
    subst this; simp [chunkB]
  | n + 1, cs, h => by
    rw [Nat.succ_mul] at h
    obtain ⟨q1, q2, q3⟩ := chunkB_flat sz n (cs.drop sz) (by simp; omega)
    refine ⟨by simp only [chunkB, List.flatten_cons, q1, List.take_append_drop], fun r hr => ?_, by simp [chunkB, q3]⟩
    simp only [chunkB, List.mem_cons] at hr
    rcases hr with rfl | hr
    · simp; omega
    · exact q2 r hr
theorem zerosB_sound {z : List AV} {zb : List BV} (hz : VBs G h z zb) : ∀ n, VBs G h (zerosL z n) (zerosB zb n)
  | 0 => .nil
  | n + 1 => hz.append (zerosB_sound hz n)
theorem zerosB_len {zb : List BV} : ∀ n, (zerosB zb n).length = n * zb.length
  | 0 => by simp [zerosB]
  | n + 1 => by simp only [zerosB, List.length_append, zerosB_len n, Nat.succ_mul]; omega
theorem fillB_len {place : Nat → Option (Nat × Nat)} : ∀ {ps : List (Nat × BV)} {cs c : List BV}, fillB place cs ps = some c → c.length = cs.length
  | [], cs, c, h => by simp only [fillB, Option.some.injEq] at h; rw [h]
  | (i, v) :: ps, cs, c, h => by
    simp only [fillB] at h
    split at h
    · cases h
    · rename_i off n _
      split at h
      · cases hb : Nat.beq n 1 && isEAt cs off with
        | false => rw [hb] at h; cases h
        | true => rw [hb] at h; exact fillB_len h
      · cases hb : Nat.beq v.cells.length n && v.cells.all BV.one with
        | false => rw [hb] at h; cases h
        | true =>
          rw [hb] at h
          simp only [cond_true] at h
          split at h
          · rename_i c' hw
            rw [wrG_some] at hw
            rw [fillB_len h, hw.2]
            have := hw.1
            simp; omega
          · cases h
theorem xb_slice {t n : Nat} {ps : Array (Nat × Operand)} {ti : TI} {pl : List (Nat × BV)} {e sz bytes : Nat} {ez : List AV} {zb cs : List BV} {es : List (List BV)} (k m : Nat) (hw : wantB ops env o = some true) (ho : o.op = .buildSlice t n ps) (hd : o.dst = some d) (hT : T t = some ti) (hpl : BS.pairs ⟨sl, env, lo, ob, df⟩ ps.toList = some pl) (hkk : ti.k = .sl e sz bytes ez) (hZ : ZB e = some zb) (hz : zEq ez zb = true)
    (h1 : (Nat.ble (n * sz) 16777216 && Nat.beq ez.length sz) = true) (hf : fillB (fun i => some (i * sz, sz)) (zerosB zb n) pl = some cs) (h2 : cs.all BV.one = true) (h3 : cs.all (BV.plain m) = true) (hes : chunkB sz n (cs.map BV.bare) = es) (hk0 : Nat.ble k 999 = true) (hs : pkSs ops ⟨sl, env, lo, ob, df⟩ (fun _ => false) pk = true) (hn : pkNs ops o.dst pk = true) (hk : subN ws pk = true)
    (h : XRB T call bx ops bs pk l ⟨sl, (d, .v (.ls es sz (k + 1) m)) :: env, lo, ob, df⟩ Q Qp) : XRB T call bx ops bs pk ((o, ws) :: l) ⟨sl, env, lo, ob, df⟩ Q Qp := by
  refine xb_step (pk' := pk) hw (fun G r hr hc hp => ?_) hk h
  obtain ⟨ql, p1, p2⟩ := hr.pairs hpl
  have hz0 : VBs G r.hp ez zb := zEq_sound hz
  obtain ⟨ca, f1, f2⟩ := fillB_sound (place' := fun i => some (i * sz, sz)) (fun _ => rfl) p2 (zerosB_sound hz0 n) hf
  have hone : ca.all AV.one = true := by
    rw [List.all_eq_true] at h2 ⊢
    intro x hx
    obtain ⟨i, hi, rfl⟩ := List.mem_iff_getElem.1 hx
    have hi' : i < cs.length := by rw [← f2.1]; exact hi
    exact (f2.2 i _ cs[i] (by simp [hi]) (by simp [hi'])).one (h2 _ (List.getElem_mem hi'))
  have g : Go1 (fun _ => false) G.om (upN G.om r.hp.n k) r.hp (r.hp.push ⟨e, ca⟩) := go_push ..
  have hk1 : k ≤ 999 := by rwa [Nat.ble_eq] at hk0
  have hlen : cs.length = n * sz := by
    rw [fillB_len hf, zerosB_len, ← hz0.1]
    simp only [Bool.and_eq_true] at h1
    rw [Nat.eq_of_beq_eq_true h1.2]
  obtain ⟨x1, x2, x3⟩ := chunkB_flat sz n (cs.map BV.bare) (by simpa using hlen)
  rw [hes] at x1 x2 x3
  refine ⟨{ r with env := (d, .v (.sl r.hp.n 0 n sz (some n))) :: r.env, hp := r.hp.push ⟨e, ca⟩ }, ⟨upN G.om r.hp.n k, G.pi⟩, by simp only [oop, ho, oBuildSlice, hT, p1, hkk, h1, cond_true, f1, hone, hd, RS.put], ?_, hc.step g (fun a ha hq => by cases hq) (fun _ _ => rfl), ?_⟩
  · refine (hr.keep0 (G' := ⟨upN G.om r.hp.n k, G.pi⟩) g (fun _ => rfl) (fun _ => rfl)).put (x := .v (.sl r.hp.n 0 n sz (some n))) (.v ?_) d
    refine .lsA (k := ⟨e, ca⟩) (cs := ca) (by simp [Hp.push]) (by rw [Hp.get_push, if_pos rfl]) (by show upN G.om _ _ _ < 1000; rw [upN_eq]; omega) (fun h => by omega) (fun _ => by show upN G.om _ _ _ + 1 = _; rw [upN_eq]) x3 x2 ?_ ?_
    · rw [part_eq, partG_some]
      have : ca.length = n * sz := by rw [f2.1, hlen]
      exact ⟨by simp; omega, by rw [List.drop_zero, List.take_of_length_le (by simp; omega)]⟩
    · rw [x1]
      exact (VBs.bare f2 h3).imp fun a b _ v => v.keep (U := 0) g (fun t _ hq => by cases hq) (by simp)
  · have := pk_put (x := .v (.sl r.hp.n 0 n sz (some n))) hn (pk_hp hr (go_push (fun _ => false) G.om r.hp ⟨e, ca⟩ 0) (fun _ _ => rfl) hs hp)
    rw [hd] at this
    exact this
theorem xb_defer {f : Operand} {args : Array Operand} {ts : Array Nat} {g : Nat} {cap al : List BV} (hw : wantB ops env o = some true) (ho : o.op = .defer ⟨.value f, args, ts⟩) (hd : o.dst = none) (hf : BS.val ⟨sl, env, lo, ob, df⟩ f = some (.fn g cap)) (hl : BS.vals ZB ⟨sl, env, lo, ob, df⟩ args.toList ts.toList = some al) (hk : ws = [])
    (h : XRB T call bx ops bs [] l ⟨sl, env, lo, ob, (g, al ++ cap) :: df⟩ Q Qp) : XRB T call bx ops bs pk ((o, ws) :: l) ⟨sl, env, lo, ob, df⟩ Q Qp := by
  subst hk
  refine xb_step (pk' := []) hw (fun G r hr hc hp => ?_) rfl h
  obtain ⟨a, a1, a2⟩ := hr.val hf
  obtain ⟨ca, rfl, a3⟩ := a2.fn_inv
  obtain ⟨m, m1, m2⟩ := hr.vals hl
  refine ⟨{ r with df := (g, m ++ ca) :: r.df }, G, by simp only [oop, ho, oDefer, a1, m1, hd, RS.put], ?_, hc, fun i hi => by simp at hi⟩
  exact ⟨hr.env, hr.sl, hr.lo, hr.ob, .cons ⟨rfl, m2.append a3⟩ hr.df⟩
theorem xb_panic {x : Operand} {t : Nat} (hw : wantB ops env o = some true) (ho : o.op = .panic x) (hx : BS.val ⟨sl, env, lo, ob, df⟩ x = some (.iface t v)) (h : Qp (.iface t v) sl env lo ob df) : XRB T call bx ops bs pk ((o, ws) :: l) ⟨sl, env, lo, ob, df⟩ Q Qp := by
  intro G r hr hc hp
  obtain ⟨a, a1, a2⟩ := hr.val hx
  obtain ⟨w, rfl, a3⟩ := a2.iface_inv
  simp only [runOps, wantB_sound hr hw, oop, ho, oPanic, a1]
  exact ⟨_, rfl, G, ⟨sl, env, lo, ob, df⟩, .iface t v, hr, hc, a2, h⟩
end
end Go.Eng

/- ENGINE 42: the rule for appending, over values of the second kind. -/
set_option linter.unusedVariables false
set_option linter.unusedSimpArgs false
namespace Go.Eng
open Go

section
variable {T : Nat → Option TI} {ZB : Nat → Option (List BV)} {call : CallF} {bx : List Nat} {ops : List Oper} {bs : Base} {pk pk' : List Nat} {l : List (Oper × List Nat)} {o : Oper} {ws : List Nat} {sl env : List (Nat × BSlot)} {lo ob df : List (Nat × List BV)} {s s' : BS} {Q : QN} {Qp : QP} {d : Nat} {y : BSlot} {v : BV} {G G' : Gh} {r : RS} {h h' : Hp}

theorem VB.flat {r : RS} {a : AV} {es : List (List BV)} {sz own m : Nat} (v : VB G r.hp a (.ls es sz own m)) : ∃ src, r.flat sz a = some (src, es.length) ∧ VNs G.om r.hp m src es.flatten ∧ (∀ x ∈ es, x.length = sz) := by
  cases v with
  | sc hs => have := toA_iff.2 hs; cases this
  | lsN => exact ⟨[], rfl, .nil, by simp⟩
  | lsA ha hk hq hm ho hl hs hp hr =>
    subst hl
    exact ⟨_, by simp only [RS.flat, hk, beq_self, cond_true, hp, Option.map_some], hr, hs⟩
  | lsO hm hl hs1 hs hr => exact ⟨_, by simp only [RS.flat, beq_self, cond_true, hl], hr, hs⟩
theorem flatten_app {α : Type} (a b : List (List α)) : (a ++ b).flatten = a.flatten ++ b.flatten := List.flatten_append
/-- A new row of rows. -/
theorem VB.newRow {h1 : Hp} {om : Nat → Nat} {pi : Nat → Option (Nat × Nat)} {e sz k m n : Nat} {cap : Option Nat} {es : List (List BV)} {ca : List AV} (hk : k ≤ 999) (hs : ∀ x ∈ es, x.length = sz) (hn : es.length = n) (hv : VNs (upN om h1.n k) (h1.push ⟨e, ca⟩) m ca es.flatten) :
    VB ⟨upN om h1.n k, pi⟩ (h1.push ⟨e, ca⟩) (.sl h1.n 0 n sz cap) (.ls es sz (k + 1) m) := by
  refine .lsA (k := ⟨e, ca⟩) (cs := ca) (by simp [Hp.push]) (by rw [Hp.get_push, if_pos rfl]) (by show upN om _ _ _ < 1000; rw [upN_eq]; omega) (fun h => by omega) (fun _ => by show upN om _ _ _ + 1 = _; rw [upN_eq]) hn hs ?_ hv
  rw [part_eq, partG_some]
  have e1 : ca.length = n * sz := by rw [hv.1, flat_lenG sz es hs, hn]
  exact ⟨by simp; omega, by rw [List.drop_zero, List.take_of_length_le (by simp; omega)]⟩
/-- 'append' to a slice that is empty and has no memory. -/
theorem xb_append0 {args : Array Operand} {ts : Array Nat} {t t2 : Nat} {ti : TI} {e sz bytes own2 m2 m' : Nat} {ez : List AV} {es2 : List (List BV)} (k : Nat) (hy : ∀ om h l, VNs om h m2 l es2.flatten → VNs om h m' l es2.flatten) (hw : wantB ops env o = some true) (ho : o.op = .call ⟨.builtin .append, args, ts⟩) (hd : o.dst = some d) (hl : BS.vals ZB ⟨sl, env, lo, ob, df⟩ args.toList ts.toList = some [.ls [] sz 0 0, .ls es2 sz own2 m2]) (hts : ts.toList = [t, t2]) (hT : T t = some ti)
    (hq : isSeq T t2 = true) (hkk : ti.k = .sl e sz bytes ez) (hez : Nat.beq ez.length sz = true) (hlen : es2.length ≤ 68719476736) (hby : Nat.ble bytes 2000 = true) (hk0 : Nat.ble k 999 = true) (hs : pkSs ops ⟨sl, env, lo, ob, df⟩ (fun _ => false) pk = true) (hn : pkNs ops o.dst pk = true) (hk : subN ws pk = true)
    (h : XRB T call bx ops bs pk l ⟨sl, (d, .v (.ls es2 sz (k + 1) m')) :: env, lo, ob, df⟩ Q Qp) : XRB T call bx ops bs pk ((o, ws) :: l) ⟨sl, env, lo, ob, df⟩ Q Qp := by
  refine xb_step (pk' := pk) hw (fun G r hr hc hp => ?_) hk h
  obtain ⟨vs, v1, v2⟩ := hr.vals hl
  obtain ⟨a, vs, rfl, va, v3⟩ := v2.cons_r
  obtain ⟨b, vs, rfl, vb, v4⟩ := v3.cons_r
  have := v4.nil_r; subst this
  have ha : a = .nils := by
    cases va with
    | sc hs => have := toA_iff.2 hs; cases this
    | lsN => rfl
    | lsA ha hk hq hm ho hl hs hp hr => have := hm rfl; simp at this
    | lsO hm hl hs1 hs hr => exact hm.ne.elim
  subst ha
  obtain ⟨src, f1, f2, f3⟩ := vb.flat
  have hk1 : k ≤ 999 := by rwa [Nat.ble_eq] at hk0
  have hb1 : bytes ≤ 2000 := by rwa [Nat.ble_eq] at hby
  by_cases h0 : es2.length = 0
  · have : es2 = [] := List.eq_nil_of_length_eq_zero h0
    subst this
    refine ⟨r.put o.dst (.v .nils), G, by simp only [oop, ho, oCall, oBuiltin, oAppend, v1, hts, hT, hq, Bool.not_true, cond_false, hkk, hez, f1, appF, List.length_nil, if_true], by rw [hd]; exact hr.put (.v .lsN) d, by rw [hd]; exact hc, by rw [hd] at hn ⊢; exact pk_put hn hp⟩
  · have g : Go1 (fun _ => false) G.om (upN G.om r.hp.n k) r.hp (r.hp.push ⟨e, src⟩) := go_push ..
    refine ⟨({ r with hp := r.hp.push ⟨e, src⟩ } : RS).put o.dst (.v (.sl r.hp.n 0 es2.length sz none)), ⟨upN G.om r.hp.n k, G.pi⟩, ?_, ?_, by rw [hd]; exact hc.step g (fun a ha hq => by cases hq) (fun _ _ => rfl), ?_⟩
    · simp only [oop, ho, oCall, oBuiltin, oAppend, v1, hts, hT, hq, Bool.not_true, cond_false, hkk, hez, f1, appF, if_neg h0]
      rw [if_pos ⟨hlen, hb1⟩]
    · rw [hd]
      refine (hr.keep0 (G' := ⟨upN G.om r.hp.n k, G.pi⟩) g (fun _ => rfl) (fun _ => rfl)).put (.v (VB.newRow hk1 f3 rfl ?_)) d
      exact (hy _ _ _ f2).imp fun a b _ v => v.keep (U := 0) g (fun t _ hq => by cases hq) (by simp)
    · have := pk_put (x := .v (.sl r.hp.n 0 es2.length sz none)) hn (pk_hp hr (go_push (fun _ => false) G.om r.hp ⟨e, src⟩ 0) (fun _ _ => rfl) hs hp)
      exact this
theorem go_dropB {om : Nat → Nat} {h : Hp} {a k need : Nat} {cap : Option Nat} {x : Blk} (ha : om a = k) : Go1 (fun t => Nat.beq t k) om (upN om h.n k) h ((dropB h a cap need).push x) := by
  have hd : (dropB h a cap need).n = h.n := by
    unfold dropB
    cases cap with
    | none => rfl
    | some c => simp only; cases Nat.ble need c <;> rfl
  refine ⟨by rw [push_n, hd]; omega, fun b hb hq => ?_, fun b hb => upN_ne (by omega)⟩
  have hne : b ≠ a := by rintro rfl; rw [ha] at hq; simp at hq
  rw [Hp.get_push, hd, if_neg (by omega)]
  unfold dropB
  cases cap with
  | none => rw [Hp.get_kill, if_neg hne]
  | some c =>
    simp only
    cases Nat.ble need c with
    | true => simp only [cond_true]; rw [Hp.get_kill, if_neg hne]
    | false => rfl
/-- 'append' to a slice of one's own. -/
theorem xb_append {args : Array Operand} {ts : Array Nat} {t t2 : Nat} {ti : TI} {e sz bytes m own2 m2 : Nat} {ez : List AV} {es es2 : List (List BV)} (k m' : Nat) (hx : ∀ om h l, VNs om h m l es.flatten → VNs om h m' l es.flatten) (hy : ∀ om h l, VNs om h m2 l es2.flatten → VNs om h m' l es2.flatten) (hw : wantB ops env o = some true) (ho : o.op = .call ⟨.builtin .append, args, ts⟩) (hd : o.dst = some d) (hl : BS.vals ZB ⟨sl, env, lo, ob, df⟩ args.toList ts.toList = some [.ls es sz (k + 1) m, .ls es2 sz own2 m2]) (hts : ts.toList = [t, t2]) (hT : T t = some ti)
    (hq : isSeq T t2 = true) (hkk : ti.k = .sl e sz bytes ez) (hez : Nat.beq ez.length sz = true) (hlen : es.length + es2.length ≤ 68719476736) (hby : Nat.ble bytes 2000 = true) (hk0 : Nat.ble k 999 = true) (hmk : Nat.beq (m' &&& 2 ^ k) 0 = true) (hP : loc k = true ∨ bs.P k = true) (hs : pkSs ops ⟨sl, env, lo, ob, df⟩ (fun t => Nat.beq t (128 + k)) pk = true) (hn : pkNs ops o.dst pk = true) (hk : subN ws pk = true)
    (h : XRB T call bx ops bs pk l ⟨frS (2 ^ k) 0 sl, (d, .v (.ls (es ++ es2) sz (k + 1) m')) :: frS (2 ^ k) 0 env, frL (2 ^ k) 0 lo, frO (2 ^ k) 0 (fun t => Nat.beq t (128 + k)) ob, frL (2 ^ k) 0 df⟩ Q Qp) : XRB T call bx ops bs pk ((o, ws) :: l) ⟨sl, env, lo, ob, df⟩ Q Qp := by
  refine xb_step (pk' := pk) hw (fun G r hr hc hp => ?_) hk h
  obtain ⟨vs, v1, v2⟩ := hr.vals hl
  obtain ⟨a, vs, rfl, va, v3⟩ := v2.cons_r
  obtain ⟨b, vs, rfl, vb, v4⟩ := v3.cons_r
  have := v4.nil_r; subst this
  obtain ⟨src, f1, f2, f3⟩ := vb.flat
  have hk1 : k ≤ 999 := by rwa [Nat.ble_eq] at hk0
  have hb1 : bytes ≤ 2000 := by rwa [Nat.ble_eq] at hby
  have hwi : Wi (fun t => Nat.beq t k) (2 ^ k) := fun t _ hq => by
    have := Nat.eq_of_beq_eq_true hq
    subst this; simp [Nat.testBit_two_pow_self]
  have hO : ∀ t, (fun t : Nat => Nat.beq t (128 + k)) t = false → (fun t => Nat.beq t k) (tg t) = false := fun t ht => beq_ne fun e => by
    have h2 : tg t = tg (128 + k) := by rw [e, tg_mid (by omega) (by omega)]; omega
    rw [tg_inj h2] at ht; simp at ht
  -- nothing changes
  have same : ∀ (w : AV), oop T call bx o r none = some (.ok (({ r with hp := r.hp } : RS).put o.dst (.v w)) none) → VB G r.hp w (.ls (es ++ es2) sz (k + 1) m') → ∃ r' G', oop T call bx o r none = some (.ok r' none) ∧ RepB G' ⟨frS (2 ^ k) 0 sl, (d, .v (.ls (es ++ es2) sz (k + 1) m')) :: frS (2 ^ k) 0 env, frL (2 ^ k) 0 lo, frO (2 ^ k) 0 (fun t => Nat.beq t (128 + k)) ob, frL (2 ^ k) 0 df⟩ r' ∧ Cg bs G' r'.hp ∧ ∀ i ∈ pk, Pk T ops r' i := by
    intro w hw' hv
    refine ⟨_, G, hw', ?_, by rw [hd]; exact hc, by rw [hd] at hn ⊢; exact pk_put hn hp⟩
    rw [hd]
    exact (hr.fr (G' := G) (h' := r.hp) (U := 2 ^ k) (D := 0) (O := fun t => Nat.beq t (128 + k)) (.refl _ _ _) hwi hO (fun _ _ => rfl)).put (.v hv) d
  -- a new row
  have fresh : ∀ (h1 : Hp) (old : List AV), Go1 (fun t => Nat.beq t k) G.om (upN G.om h1.n k) r.hp (h1.push ⟨e, old ++ src⟩) → VNs G.om r.hp m old es.flatten → (∀ x ∈ es, x.length = sz) → oop T call bx o r none = some (.ok (({ r with hp := h1.push ⟨e, old ++ src⟩ } : RS).put o.dst (.v (.sl h1.n 0 (es.length + es2.length) sz none))) none) →
      ∃ r' G', oop T call bx o r none = some (.ok r' none) ∧ RepB G' ⟨frS (2 ^ k) 0 sl, (d, .v (.ls (es ++ es2) sz (k + 1) m')) :: frS (2 ^ k) 0 env, frL (2 ^ k) 0 lo, frO (2 ^ k) 0 (fun t => Nat.beq t (128 + k)) ob, frL (2 ^ k) 0 df⟩ r' ∧ Cg bs G' r'.hp ∧ ∀ i ∈ pk, Pk T ops r' i := by
    intro h1 old g hold hrows hw'
    refine ⟨_, ⟨upN G.om h1.n k, G.pi⟩, hw', ?_, ?_, ?_⟩
    · rw [hd]
      refine (hr.fr (G' := ⟨upN G.om h1.n k, G.pi⟩) (U := 2 ^ k) (D := 0) (O := fun t => Nat.beq t (128 + k)) g hwi hO (fun _ _ => rfl)).put (.v (VB.newRow hk1 (fun x hx => ?_) (by simp) ?_)) d
      · rcases List.mem_append.1 hx with hx | hx
        · exact hrows x hx
        · exact f3 x hx
      · rw [flatten_app]
        have hmz : m' &&& 2 ^ k = 0 := Nat.eq_of_beq_eq_true hmk
        exact ((hx _ _ _ hold).append (hy _ _ _ f2)).imp fun a b _ v => v.keep (U := 2 ^ k) g hwi hmz
    · rw [hd]
      refine hc.step g (fun a ha hq => ?_) (fun _ _ => rfl)
      have he := Nat.eq_of_beq_eq_true hq
      rcases hP with hP | hP
      · exact (hc.young hP ha he).elim
      · rw [he]; exact hP
    · rw [hd] at hn ⊢
      exact pk_put hn (pk_hp hr g hO hs hp)
  cases va with
  | sc hs => have := toA_iff.2 hs; cases this
  | lsN =>
    by_cases h0 : es2.length = 0
    · have : es2 = [] := List.eq_nil_of_length_eq_zero h0
      subst this
      exact same .nils (by simp only [oop, ho, oCall, oBuiltin, oAppend, v1, hts, hT, hq, Bool.not_true, cond_false, hkk, hez, f1, appF, List.length_nil, if_true]) .lsN
    · refine fresh r.hp [] ⟨by simp [Hp.push], fun a ha _ => by rw [Hp.get_push, if_neg (by omega)], fun a ha => upN_ne (by omega)⟩ .nil (by simp) ?_
      simp only [oop, ho, oCall, oBuiltin, oAppend, v1, hts, hT, hq, Bool.not_true, cond_false, hkk, hez, f1, appF, if_neg h0]
      rw [if_pos ⟨by simpa using hlen, hb1⟩]
      simp
  | @lsA a off len _ cap kb _ cs _ _ ha hk' hqa hm hown hl2 hs2 hpp hrr =>
    subst hl2
    have hka : G.om a = k := by have := hown (by omega); omega
    by_cases h0 : es2.length = 0
    · have : es2 = [] := List.eq_nil_of_length_eq_zero h0
      subst this
      refine same (.sl a off es.length sz cap) (by simp only [oop, ho, oCall, oBuiltin, oAppend, v1, hts, hT, hq, Bool.not_true, cond_false, hkk, hez, f1, appF, List.length_nil, if_true]) ?_
      rw [List.append_nil]
      exact .lsA ha hk' hqa (fun h => by omega) hown rfl hs2 hpp (hx _ _ _ hrr)
    · have hdn : (dropB r.hp a cap (es.length + es2.length)).n = r.hp.n := by
        unfold dropB
        cases cap with
        | none => rfl
        | some c => simp only; cases Nat.ble (es.length + es2.length) c <;> rfl
      refine fresh (dropB r.hp a cap (es.length + es2.length)) cs (by rw [hdn]; exact go_dropB hka) hrr hs2 ?_
      simp only [oop, ho, oCall, oBuiltin, oAppend, v1, hts, hT, hq, Bool.not_true, cond_false, hkk, hez, f1, appF, if_neg h0, hk', hpp]
      rw [if_pos (by exact ⟨hlen, hb1, trivial⟩)]
      rw [hdn]
end
end Go.Eng

/- ENGINE 43: a call sees the memory by other tags: there and back. -/
set_option linter.unusedVariables false
set_option linter.unusedSimpArgs false
namespace Go.Eng
open Go

def lki : List (Nat × Nat) → Nat → Option Nat
  | [], _ => none
  | (a, b) :: l, t => bif Nat.beq b t then some a else lki l t
theorem lkp_mem {α : Type} : ∀ {l : List (Nat × α)} {t : Nat} {x : α}, lkp l t = some x → (t, x) ∈ l
  | [], t, x, h => by simp [lkp] at h
  | (a, b) :: l, t, x, h => by
    simp only [lkp] at h
    cases ha : Nat.beq a t with
    | true =>
      have := Nat.eq_of_beq_eq_true ha
      subst this
      rw [ha] at h
      simp only [cond_true, Option.some.injEq] at h; subst h; simp
    | false => rw [ha] at h; exact List.mem_cons_of_mem _ (lkp_mem h)
theorem lkp_none {α : Type} : ∀ {l : List (Nat × α)} {t : Nat}, lkp l t = none → ∀ p ∈ l, p.1 ≠ t
  | [], t, h, p, hp => by simp at hp
  | (a, b) :: l, t, h, p, hp => by
    simp only [lkp] at h
    cases ha : Nat.beq a t with
    | true => rw [ha] at h; cases h
    | false =>
      rw [ha] at h
      rcases List.mem_cons.1 hp with rfl | hp
      · rintro rfl; simp at ha
      · exact lkp_none h p hp
theorem lki_mem : ∀ {l : List (Nat × Nat)} {t x : Nat}, lki l t = some x → (x, t) ∈ l
  | [], t, x, h => by simp [lki] at h
  | (a, b) :: l, t, x, h => by
    simp only [lki] at h
    cases ha : Nat.beq b t with
    | true =>
      have := Nat.eq_of_beq_eq_true ha
      subst this
      rw [ha] at h
      simp only [cond_true, Option.some.injEq] at h; subst h; simp
    | false => rw [ha] at h; exact List.mem_cons_of_mem _ (lki_mem h)
theorem lki_none : ∀ {l : List (Nat × Nat)} {t : Nat}, lki l t = none → ∀ p ∈ l, p.2 ≠ t
  | [], t, h, p, hp => by simp at hp
  | (a, b) :: l, t, h, p, hp => by
    simp only [lki] at h
    cases ha : Nat.beq b t with
    | true => rw [ha] at h; cases h
    | false =>
      rw [ha] at h
      rcases List.mem_cons.1 hp with rfl | hp
      · rintro rfl; simp at ha
      · exact lki_none h p hp
/-- No second member twice. -/
def inj2 : List (Nat × Nat) → Bool
  | [] => true
  | p :: l => (l.all fun q => !Nat.beq p.2 q.2) && inj2 l
theorem inj2_eq : ∀ {l : List (Nat × Nat)}, inj2 l = true → ∀ {a b t : Nat}, (a, t) ∈ l → (b, t) ∈ l → a = b
  | [], _, a, b, t, h, _ => by simp at h
  | p :: l, h, a, b, t, h1, h2 => by
    simp only [inj2, Bool.and_eq_true, List.all_eq_true, Bool.not_eq_true'] at h
    rcases List.mem_cons.1 h1 with e1 | h1
    · rcases List.mem_cons.1 h2 with e2 | h2
      · rw [← e1] at e2; simp only [Prod.mk.injEq, and_true] at e2; exact e2.symm
      · have := h.1 _ h2; rw [← e1] at this; simp at this
    · rcases List.mem_cons.1 h2 with e2 | h2
      · have := h.1 _ h1; rw [← e2] at this; simp at this
      · exact inj2_eq h.2 h1 h2

/-- How a call sees the tags: rows' tags by 'ρa', objects by 'ρo', what its arguments lead to ('am') as 0. -/
structure Rn where
  a : List (Nat × Nat)
  o : List (Nat × Nat)
  n : List (Nat × Nat)
  am : Nat
  c : Nat
def Rn.ok (ρ : Rn) : Bool :=
  (ρ.a.all fun p => Nat.ble p.1 999 && (Nat.ble 64 p.2 && Nat.ble p.2 999)) && inj2 ρ.a && (ρ.o.all fun p => (Nat.blt p.1 128 && (Nat.ble 64 p.2 && Nat.blt p.2 128)) || ((Nat.ble 128 p.1 && Nat.blt p.1 1128) && ((Nat.ble 300 p.2 && Nat.blt p.2 1128) && (match lkp ρ.a (p.1 - 128) with | some u => Nat.beq u (p.2 - 128) | none => false)))) && inj2 ρ.o && (ρ.n.all fun p => (Nat.ble 1 p.1 && Nat.ble p.1 62) && ((Nat.ble 1 p.2 && Nat.ble p.2 62) && (ρ.o.all fun q => !Nat.beq q.1 p.2))) && inj2 ρ.n && Nat.ble ρ.c 999 && inj2 (ρ.o.map fun p => (p.2, p.1)) && inj2 (ρ.n.map fun p => (p.2, p.1))
def Rn.t (ρ : Rn) (t : Nat) : Nat :=
  bif Nat.blt t 1000 then (match lkp ρ.a t with | some u => u | none => bif ρ.am.testBit t then 0 else 63)
  else (bif Nat.blt t 1128 then (match lkp ρ.o (t - 1000) with | some u => 1000 + u | none => 1063) else 1063)
def orAll (f : Nat × Nat → Nat) : List (Nat × Nat) → Nat
  | [] => 0
  | p :: l => f p ||| orAll f l
theorem orAll_bit {f : Nat × Nat → Nat} {t : Nat} : ∀ {l : List (Nat × Nat)}, (orAll f l).testBit t = true ↔ ∃ p ∈ l, (f p).testBit t = true
  | [] => by simp [orAll]
  | p :: l => by
    simp only [orAll, Nat.testBit_or, Bool.or_eq_true, orAll_bit, List.mem_cons, exists_eq_or_imp]
def subM (m am : Nat) : Bool := Nat.beq (m ||| am) am
def Rn.m0 (ρ : Rn) (m : Nat) : Nat := orAll (fun p => bif m.testBit p.1 then 2 ^ p.2 else 0) ρ.a
/-- Does it lead to no memory but what the call has names for? -/
def Rn.full (ρ : Rn) (m : Nat) : Bool := subM m (orAll (fun p => 2 ^ p.1) ρ.a) && !Nat.beq (ρ.m0 m) 0
def Rn.m (ρ : Rn) (m : Nat) : Nat := bif ρ.full m then ρ.m0 m else ρ.m0 m ||| 1
def Rn.out (ρ : Rn) : BV → BV
  | .ls es sz own m => bif Nat.beq own 0 then .ls es sz 0 (ρ.m m) else (match lkp ρ.a (own - 1) with | some u => .ls es sz (u + 1) (ρ.m m) | none => .ls es sz 0 (ρ.m m ||| 1))
  | .ro cs off m => .ro cs off (ρ.m m)
  | .ptr t o => (match lkp ρ.o t with | some u => .ptr u o | none => .any)
  | .sl t off len sz => (match lkp ρ.o t with | some u => .sl u off len sz | none => .any)
  | .fn f c => .fn f (outs c)
  | .iface t v => .iface t (ρ.out v)
  | .agg c => .agg (outs c)
  | .tup c => .tup (outs c)
  | v => v
where outs : List BV → List BV
  | [] => []
  | v :: l => ρ.out v :: outs l
/-- Does a value lead to no other memory than 'am'? -/
def BV.within (ρ : Rn) : BV → Bool
  | .ls _ _ own m => subM m ρ.am && (Nat.beq own 0 || (match lkp ρ.a (own - 1) with | some _ => true | none => ρ.am.testBit (own - 1)))
  | .ro _ _ m => subM m ρ.am
  | .fn _ c => ws c
  | .iface _ v => v.within ρ
  | .agg c => ws c
  | .tup c => ws c
  | _ => true
where ws : List BV → Bool
  | [] => true
  | v :: l => v.within ρ && ws l
theorem subM_bit {m am t : Nat} (h : subM m am = true) (ht : m.testBit t = true) : am.testBit t = true := or_sub (Nat.eq_of_beq_eq_true h) ht

/-- The memory as the call sees it. -/
def Rn.gh (ρ : Rn) (G : Gh) : Gh := ⟨fun a => ρ.t (G.om a), fun u => match lki ρ.o u with | some t => G.pi t | none => none⟩
section
variable {ρ : Rn} {G G' : Gh} {h h' : Hp}
structure Rn.Ok (ρ : Rn) : Prop where
  a1 : ∀ p ∈ ρ.a, p.1 < 1000
  a2 : ∀ p ∈ ρ.a, 64 ≤ p.2
  a3 : ∀ p ∈ ρ.a, p.2 < 1000
  ai : ∀ {a b t : Nat}, (a, t) ∈ ρ.a → (b, t) ∈ ρ.a → a = b
  oc : ∀ p ∈ ρ.o, (p.1 < 128 ∧ 64 ≤ p.2 ∧ p.2 < 128) ∨ (128 ≤ p.1 ∧ p.1 < 1128 ∧ 300 ≤ p.2 ∧ p.2 < 1128 ∧ lkp ρ.a (p.1 - 128) = some (p.2 - 128))
  oi : ∀ {a b t : Nat}, (a, t) ∈ ρ.o → (b, t) ∈ ρ.o → a = b
  n1 : ∀ p ∈ ρ.n, 1 ≤ p.1 ∧ p.1 ≤ 62
  n2 : ∀ p ∈ ρ.n, 1 ≤ p.2 ∧ p.2 ≤ 62
  n3 : ∀ p ∈ ρ.n, ∀ q ∈ ρ.o, q.1 ≠ p.2
  ni : ∀ {a b t : Nat}, (a, t) ∈ ρ.n → (b, t) ∈ ρ.n → a = b
  c : ρ.c < 1000
  oj : ∀ {a b t : Nat}, (t, a) ∈ ρ.o → (t, b) ∈ ρ.o → a = b
  nj : ∀ {a b t : Nat}, (t, a) ∈ ρ.n → (t, b) ∈ ρ.n → a = b
theorem Rn.ok_iff (hk : ρ.ok = true) : ρ.Ok := by
  simp only [Rn.ok, Bool.and_eq_true, List.all_eq_true, Nat.ble_eq, Bool.not_eq_true'] at hk
  obtain ⟨⟨⟨⟨⟨⟨⟨⟨k1, k2⟩, k3⟩, k4⟩, k5⟩, k6⟩, k7⟩, k8⟩, k9⟩ := hk
  exact ⟨fun p hp => by have := (k1 p hp).1; omega, fun p hp => (k1 p hp).2.1, fun p hp => by have := (k1 p hp).2.2; omega, fun h1 h2 => inj2_eq k2 h1 h2, fun p hp => (by
      have := k3 p hp
      simp only [Bool.or_eq_true, Bool.and_eq_true, Nat.ble_eq, Nat.blt] at this
      rcases this with ⟨a1, a2, a3⟩ | ⟨⟨a1, a2⟩, ⟨a3, a4⟩, a5⟩
      · exact .inl ⟨by omega, a2, by omega⟩
      · refine .inr ⟨a1, by omega, a3, by omega, ?_⟩
        split at a5
        · rename_i u hu; rw [hu, Nat.eq_of_beq_eq_true a5]
        · cases a5), fun h1 h2 => inj2_eq k4 h1 h2,
    fun p hp => (k5 p hp).1, fun p hp => (k5 p hp).2.1, fun p hp q hq e => by have := (k5 p hp).2.2 q hq; rw [e] at this; simp at this, fun h1 h2 => inj2_eq k6 h1 h2, by omega, fun h1 h2 => inj2_eq k8 (List.mem_map.2 ⟨_, h1, rfl⟩) (List.mem_map.2 ⟨_, h2, rfl⟩), fun h1 h2 => inj2_eq k9 (List.mem_map.2 ⟨_, h1, rfl⟩) (List.mem_map.2 ⟨_, h2, rfl⟩)⟩
theorem Rn.t_lt (hk : ρ.Ok) {t : Nat} : ρ.t t < 1000 ↔ t < 1000 := by
  unfold Rn.t
  cases hb : Nat.blt t 1000 with
  | true =>
    have ht : t < 1000 := by rw [Nat.blt, Nat.ble_eq] at hb; omega
    simp only [cond_true]
    split
    · rename_i u hu; exact ⟨fun _ => ht, fun _ => hk.a3 _ (lkp_mem hu)⟩
    · cases ρ.am.testBit t <;> simp [ht]
  | false =>
    have ht : ¬ t < 1000 := by
      intro ht
      have : Nat.blt t 1000 = true := by rw [Nat.blt, Nat.ble_eq]; omega
      rw [hb] at this; cases this
    simp only [cond_false]
    cases Nat.blt t 1128 with
    | true =>
      simp only [cond_true]
      split
      · constructor <;> intro <;> omega
      · constructor <;> intro <;> omega
    | false => simp only [cond_false]; constructor <;> intro <;> omega
theorem Rn.t_val (hk : ρ.Ok) {t : Nat} (ht : t < 1000) : ρ.t t = match lkp ρ.a t with | some u => u | none => bif ρ.am.testBit t then 0 else 63 := by
  unfold Rn.t
  have : Nat.blt t 1000 = true := by rw [Nat.blt, Nat.ble_eq]; omega
  rw [this]; rfl
theorem Rn.Ok.o1 (hk : ρ.Ok) : ∀ p ∈ ρ.o, 64 ≤ p.2 := fun p hp => by
  rcases hk.oc p hp with h | h
  · exact h.2.1
  · omega
theorem Rn.Ok.oh (hk : ρ.Ok) {p : Nat × Nat} (hp : p ∈ ρ.o) : hi p.2 = true := by
  simp only [hi, Bool.or_eq_true, Bool.and_eq_true, Nat.ble_eq, Nat.blt]
  rcases hk.oc p hp with h | h
  · exact .inl ⟨h.2.1, by omega⟩
  · exact .inr h.2.2.1
theorem Rn.t_obj (hk : ρ.Ok) {t : Nat} (ht : t < 128) : ρ.t (1000 + t) = match lkp ρ.o t with | some u => 1000 + u | none => 1063 := by
  unfold Rn.t
  rw [blt_f (show ¬ 1000 + t < 1000 by omega), blt_t (show 1000 + t < 1128 by omega), show 1000 + t - 1000 = t from by omega]; rfl
theorem Rn.t_far (hk : ρ.Ok) {t : Nat} (ht : 1128 ≤ t) : ρ.t t = 1063 := by
  unfold Rn.t
  rw [blt_f (show ¬ t < 1000 by omega), blt_f (show ¬ t < 1128 by omega)]; rfl
theorem Rn.t_tg (hk : ρ.Ok) {t u : Nat} (h : (t, u) ∈ ρ.o) : ρ.t (tg t) = tg u := by
  rcases hk.oc _ h with ⟨h1, h2, h3⟩ | ⟨h1, h2, h3, h4, h5⟩
  · simp only at h1 h2 h3
    rw [tg_lo h1, tg_lo h3, Rn.t_obj hk h1]
    split
    · rename_i u' hu; rw [hk.oj (lkp_mem hu) h]
    · rename_i hno; exact absurd rfl (lkp_none hno _ h)
  · simp only at h1 h2 h3 h4 h5
    rw [tg_mid (by omega) h2, tg_mid (by omega) h4, Rn.t_val hk (by omega), h5]
/-- A tag that the memory may bear is borne by what the call sees. -/
theorem Rn.m_bit (hk : ρ.Ok) {m t : Nat} (ht : t < 1000) (hm : m.testBit t = true) (hs : subM m ρ.am = true) : (ρ.m m).testBit (ρ.t t) = true := by
  rw [Rn.t_val hk ht]
  have h0 : ∀ u, lkp ρ.a t = some u → (ρ.m0 m).testBit u = true := fun u hu => orAll_bit.2 ⟨(t, u), lkp_mem hu, by simp [hm, Nat.testBit_two_pow_self]⟩
  unfold Rn.m
  cases hf : ρ.full m with
  | true =>
    simp only [cond_true]
    simp only [Rn.full, Bool.and_eq_true] at hf
    have hd := subM_bit hf.1 hm
    obtain ⟨p, hp, hb⟩ := orAll_bit.1 hd
    rw [Nat.testBit_two_pow] at hb
    have hpt := of_decide_eq_true hb
    split
    · rename_i u hu; exact h0 u hu
    · rename_i hno; exact absurd hpt (lkp_none hno p hp)
  | false =>
    simp only [cond_false]
    rw [Nat.testBit_or, Bool.or_eq_true]
    split
    · rename_i u hu; exact .inl (h0 u hu)
    · rw [subM_bit hs hm]; exact .inr (by simp)
theorem Rn.m_ne (m : Nat) : ρ.m m ≠ 0 := by
  unfold Rn.m
  cases hf : ρ.full m with
  | true =>
    simp only [Rn.full, Bool.and_eq_true, Bool.not_eq_true'] at hf
    simp only [cond_true]
    intro h
    rw [h] at hf
    simp at hf
  | false =>
    simp only [cond_false]
    intro h
    have : (ρ.m0 m ||| 1).testBit 0 = true := by rw [Nat.testBit_or]; simp
    rw [h] at this; simp at this
theorem VN.out (hk : ρ.Ok) {m : Nat} (hs : subM m ρ.am = true) {a : AV} {b : BV} (v : VN G.om h m a b) : VN (ρ.gh G).om h (ρ.m m) a b := by
  induction v with
  | sc hs => exact .sc hs
  | ai => exact .ai
  | sx => exact .sx
  | lsN => exact .lsN
  | lsA ha hk' hm hl hs' hp hn hr ih => exact .lsA ha hk' ⟨(Rn.t_lt hk).2 hm.1, Rn.m_bit hk hm.1 hm.2 hs⟩ hl hs' hp hn ih
  | lsO hm hl hs1 hs' hn hr ih => exact .lsO ⟨hm.1, (Rn.t_lt hk).2 hm.2.1, Rn.m_bit hk hm.2.1 hm.2.2 hs⟩ hl hs1 hs' hn ih
theorem subM_tagm {own m am : Nat} (h : subM (tagm own m) am = true) : subM m am = true := by
  unfold subM at h ⊢
  have h1 := Nat.eq_of_beq_eq_true h
  rw [show (m ||| am) = am from Nat.eq_of_testBit_eq fun t => by
    cases hm : m.testBit t with
    | false => rw [Nat.testBit_or, hm, Bool.false_or]
    | true => rw [Nat.testBit_or, hm, Bool.true_or, or_sub h1 (tagm_sub hm)]]
  simp
theorem ws_mem : ∀ {l : List BV}, BV.within.ws ρ l = true → ∀ v ∈ l, v.within ρ = true
  | [], _, v, hv => by simp at hv
  | a :: l, h, v, hv => by
    simp only [BV.within.ws, Bool.and_eq_true] at h
    rcases List.mem_cons.1 hv with rfl | hv
    · exact h.1
    · exact ws_mem h.2 v hv
theorem outs_map : ∀ l : List BV, Rn.out.outs ρ l = l.map ρ.out
  | [] => rfl
  | v :: l => by simp only [Rn.out.outs, outs_map l, List.map_cons]
theorem out_sc {a : AV} {b : BV} (hs : scB a = some b) : ρ.out b = b := by cases a <;> simp [scB] at hs <;> subst hs <;> rfl
theorem Rn.pi_out (hk : ρ.Ok) {t u : Nat} (hu : lkp ρ.o t = some u) : (ρ.gh G).pi u = G.pi t := by
  simp only [Rn.gh]
  split
  · rename_i t' ht'
    rw [hk.oi (lki_mem ht') (lkp_mem hu)]
  · rename_i hn
    exact absurd rfl (lki_none hn _ (lkp_mem hu))
theorem VB.out (hk : ρ.Ok) {a : AV} {b : BV} (v : VB G h a b) (hs : b.within ρ = true) : VB (ρ.gh G) h a (ρ.out b) := by
  induction v with
  | any => exact .any
  | sc hs' => rw [out_sc hs']; exact .sc hs'
  | ai => exact .ai
  | sx => exact .sx
  | nils => exact .nils
  | ptr hp =>
    simp only [Rn.out]
    split
    · rename_i u hu; exact .ptr (by rw [Rn.pi_out hk hu]; exact hp)
    · exact .any
  | sl hp =>
    simp only [Rn.out]
    split
    · rename_i u hu; exact .sl (by rw [Rn.pi_out hk hu]; exact hp)
    · exact .any
  | sl0 =>
    simp only [Rn.out]
    split
    · exact .sl0
    · exact .any
  | @lsN sz own m =>
    simp only [Rn.out]
    cases Nat.beq own 0 with
    | true => exact .lsN
    | false =>
      simp only [cond_false]
      split <;> exact .lsN
  | @lsA a off len sz cap k es cs own m ha hk' hq hm ho hl hs' hp hr =>
    simp only [BV.within, Bool.and_eq_true, Bool.or_eq_true] at hs
    have hsm := hs.1
    have hr' : VNs (ρ.gh G).om h (ρ.m m) cs es.flatten := hr.imp fun _ _ _ v => v.out hk hsm
    simp only [Rn.out]
    by_cases h0 : own = 0
    · subst h0
      simp only [beq_self, cond_true]
      exact .lsA ha hk' ((Rn.t_lt hk).2 hq) (fun _ => Rn.m_bit hk hq (hm rfl) hsm) (fun h => absurd rfl h) hl hs' hp hr'
    · rw [beq_ne h0]
      simp only [cond_false]
      have e1 : own - 1 = G.om a := by have := ho h0; omega
      split
      · rename_i u hu
        rw [e1] at hu
        refine .lsA ha hk' ((Rn.t_lt hk).2 hq) (fun h => by omega) (fun _ => ?_) hl hs' hp hr'
        show ρ.t (G.om a) + 1 = u + 1
        rw [Rn.t_val hk hq, hu]
      · rename_i hu
        rw [e1] at hu
        refine .lsA ha hk' ((Rn.t_lt hk).2 hq) (fun _ => ?_) (fun h => absurd rfl h) hl hs' hp (VN.weaks (fun t ht => by rw [Nat.testBit_or, ht, Bool.true_or]) hr')
        show (ρ.m m ||| 1).testBit (ρ.t (G.om a)) = true
        rw [Rn.t_val hk hq, hu]
        have : ρ.am.testBit (G.om a) = true := by
          rcases hs.2 with h1 | h1
          · exact absurd (Nat.eq_of_beq_eq_true h1) h0
          · rw [e1, hu] at h1; exact h1
        simp only [this, cond_true]
        rw [Nat.testBit_or]; simp
  | lsO hm hl hs1 hs' hr =>
    simp only [BV.within, Bool.and_eq_true] at hs
    simp only [Rn.out, beq_self, cond_true]
    exact .lsO ⟨hm.1, (Rn.t_lt hk).2 hm.2.1, Rn.m_bit hk hm.2.1 hm.2.2 hs.1⟩ hl hs1 hs' (hr.imp fun _ _ _ v => v.out hk hs.1)
  | roA ha hk' hm hp hr =>
    simp only [BV.within] at hs
    simp only [Rn.out]
    exact .roA ha hk' ⟨(Rn.t_lt hk).2 hm.1, Rn.m_bit hk hm.1 hm.2 hs⟩ hp (hr.imp fun _ _ _ v => v.out hk hs)
  | roO hm hr =>
    simp only [BV.within] at hs
    simp only [Rn.out]
    exact .roO ⟨hm.1, (Rn.t_lt hk).2 hm.2.1, Rn.m_bit hk hm.2.1 hm.2.2 hs⟩ (hr.imp fun _ _ _ v => v.out hk hs)
  | @fn f as cs hn hr ih =>
    simp only [BV.within] at hs
    simp only [Rn.out, outs_map]
    have : VBs (ρ.gh G) h as (cs.map ρ.out) := L2.map_r (R := fun x y => BV.within ρ y = true → VB (ρ.gh G) h x (ρ.out y)) ⟨hn, ih⟩ fun a b hb k => k (ws_mem hs b hb)
    exact .fn this.1 this.2
  | iface hr ih => simp only [BV.within] at hs; exact .iface (ih hs)
  | @agg as cs hn hr ih =>
    simp only [BV.within] at hs
    simp only [Rn.out, outs_map]
    have : VBs (ρ.gh G) h as (cs.map ρ.out) := L2.map_r (R := fun x y => BV.within ρ y = true → VB (ρ.gh G) h x (ρ.out y)) ⟨hn, ih⟩ fun a b hb k => k (ws_mem hs b hb)
    exact .agg this.1 this.2
  | @tup as cs hn hr ih =>
    simp only [BV.within] at hs
    simp only [Rn.out, outs_map]
    have : VBs (ρ.gh G) h as (cs.map ρ.out) := L2.map_r (R := fun x y => BV.within ρ y = true → VB (ρ.gh G) h x (ρ.out y)) ⟨hn, ih⟩ fun a b hb k => k (ws_mem hs b hb)
    exact .tup this.1 this.2
theorem VBs.out (hk : ρ.Ok) {l : List AV} {m : List BV} (v : VBs G h l m) (hs : BV.within.ws ρ m = true) : VBs (ρ.gh G) h l (Rn.out.outs ρ m) := by
  rw [outs_map]
  exact v.map_r fun a b hb hv => hv.out hk (ws_mem hs b hb)

/-! #### Back -/
def Rn.known (ρ : Rn) : Nat := orAll (fun p => 2 ^ p.2) ρ.a ||| 9223372036854775807
def Rn.bm (ρ : Rn) (m : Nat) : Nat := orAll (fun p => bif m.testBit p.2 then 2 ^ p.1 else 0) ρ.a ||| (bif m.testBit 0 then ρ.am ||| 2 ^ ρ.c else 0) ||| (bif Nat.beq (m &&& 9223372036854775806) 0 then 0 else 2 ^ ρ.c)
def Rn.back (ρ : Rn) : BV → BV
  | .ls es sz own m => bif subM m ρ.known then (bif Nat.beq own 0 then .ls es sz 0 (ρ.bm m) else (match lki ρ.a (own - 1) with | some k => .ls es sz (k + 1) (ρ.bm m) | none => bif Nat.ble 2 own && Nat.ble own 63 then .ls es sz 0 (ρ.bm m ||| 2 ^ ρ.c) else .any)) else .any
  | .ro cs off m => bif subM m ρ.known then .ro cs off (ρ.bm m) else .any
  | .ptr t o => (match lki ρ.o t with | some τ => .ptr τ o | none => (match lkp ρ.n t with | some τ => .ptr τ o | none => .any))
  | .sl t off len sz => (match lki ρ.o t with | some τ => .sl τ off len sz | none => (match lkp ρ.n t with | some τ => .sl τ off len sz | none => .any))
  | .fn f c => .fn f (backs c)
  | .iface t v => .iface t (ρ.back v)
  | .agg c => .agg (backs c)
  | .tup c => .tup (backs c)
  | v => v
where backs : List BV → List BV
  | [] => []
  | v :: l => ρ.back v :: backs l
theorem backs_map : ∀ l : List BV, Rn.back.backs ρ l = l.map ρ.back
  | [] => rfl
  | v :: l => by simp only [Rn.back.backs, backs_map l, List.map_cons]
theorem back_sc {a : AV} {b : BV} (hs : scB a = some b) : ρ.back b = b := by cases a <;> simp [scB] at hs <;> subst hs <;> rfl
/-- The tags of what the call made. -/
def Rn.bt (ρ : Rn) (t : Nat) : Nat := bif Nat.blt t 1000 then (match lki ρ.a t with | some k => k | none => ρ.c) else (match lkp ρ.n (t - 1000) with | some τ => 1000 + τ | none => 1063)
/-- The memory behind the call. -/
def Rn.gb (ρ : Rn) (G G' : Gh) (n : Nat) : Gh := ⟨fun a => bif Nat.blt a n then G.om a else ρ.bt (G'.om a), fun t => match lki ρ.n t with | some u => G'.pi u | none => G.pi t⟩
theorem Rn.gb_old {a n : Nat} (ha : a < n) : (ρ.gb G G' n).om a = G.om a := by
  have : Nat.blt a n = true := by rw [Nat.blt, Nat.ble_eq]; omega
  simp only [Rn.gb, this, cond_true]
theorem Rn.gb_new {a n : Nat} (ha : ¬ a < n) : (ρ.gb G G' n).om a = ρ.bt (G'.om a) := by
  have : Nat.blt a n = false := by
    cases hb : Nat.blt a n with
    | false => rfl
    | true => rw [Nat.blt, Nat.ble_eq] at hb; omega
  simp only [Rn.gb, this, cond_false]
theorem Rn.bt_lt (hk : ρ.Ok) {t : Nat} (ht : t < 1000) : ρ.bt t = (match lki ρ.a t with | some k => k | none => ρ.c) := by
  have : Nat.blt t 1000 = true := by rw [Nat.blt, Nat.ble_eq]; omega
  simp only [Rn.bt, this, cond_true]
theorem Rn.bt_obj (hk : ρ.Ok) {t : Nat} : ρ.bt (1000 + t) = (match lkp ρ.n t with | some τ => 1000 + τ | none => 1063) := by
  have : Nat.blt (1000 + t) 1000 = false := by
    cases hb : Nat.blt (1000 + t) 1000 with
    | false => rfl
    | true => rw [Nat.blt, Nat.ble_eq] at hb; omega
  simp only [Rn.bt, this, cond_false, show 1000 + t - 1000 = t from by omega]

/-- What a call leaves behind. -/
structure Rn.Left (ρ : Rn) (G G' : Gh) (h : Hp) : Prop where
  om : ∀ a, a < h.n → G'.om a = ρ.t (G.om a)
  pi : ∀ t τ, (τ, t) ∈ ρ.o → G'.pi t = G.pi τ
variable {n : Nat}
theorem Rn.gb_lt (hk : ρ.Ok) (L : ρ.Left G G' h) {a : Nat} (hq : G'.om a < 1000) : (ρ.gb G G' h.n).om a < 1000 := by
  by_cases ha : a < h.n
  · rw [Rn.gb_old ha]
    rw [L.om a ha] at hq
    exact (Rn.t_lt hk).1 hq
  · rw [Rn.gb_new ha, Rn.bt_lt hk hq]
    split
    · rename_i k hk'; exact hk.a1 _ (lki_mem hk')
    · exact hk.c
theorem bit_low {t : Nat} (h1 : 1 ≤ t) (h2 : t ≤ 62) : (9223372036854775806 : Nat).testBit t = true := by
  have : ∀ t : Fin 63, 1 ≤ t.val → (9223372036854775806 : Nat).testBit t.val = true := by decide
  exact this ⟨t, by omega⟩ h1
theorem bit_low0 {t : Nat} (h : (9223372036854775807 : Nat).testBit t = true) : t ≤ 62 := by
  have e : (9223372036854775807 : Nat) = 2 ^ 63 - 1 := by decide
  rw [e, Nat.testBit_two_pow_sub_one] at h
  have := of_decide_eq_true h
  omega
/-- Tags there and back. -/
theorem Rn.bm_bit (hk : ρ.Ok) (L : ρ.Left G G' h) {m a : Nat} (hq : G'.om a < 1000) (hm : m.testBit (G'.om a) = true) (hs : subM m ρ.known = true) : (ρ.bm m).testBit ((ρ.gb G G' h.n).om a) = true := by
  have hkn := subM_bit hs hm
  unfold Rn.known at hkn
  rw [Nat.testBit_or, Bool.or_eq_true, orAll_bit] at hkn
  unfold Rn.bm
  rw [Nat.testBit_or, Nat.testBit_or, Bool.or_eq_true, Bool.or_eq_true]
  by_cases ha : a < h.n
  · rw [Rn.gb_old ha]
    have e := L.om a ha
    have hq' : G.om a < 1000 := (Rn.t_lt hk).1 (e ▸ hq)
    rw [Rn.t_val hk hq'] at e
    split at e
    · rename_i u hu
      exact .inl (.inl (orAll_bit.2 ⟨_, lkp_mem hu, by simp only [← e, hm, cond_true, Nat.testBit_two_pow_self]⟩))
    · cases ht : ρ.am.testBit (G.om a) with
      | true =>
        rw [ht] at e
        simp only [cond_true] at e
        rw [e] at hm
        refine .inl (.inr ?_)
        simp only [hm, cond_true, Nat.testBit_or, ht, Bool.true_or]
      | false =>
        rw [ht] at e
        simp only [cond_false] at e
        rw [e] at hkn
        rcases hkn with ⟨p, hp, hb⟩ | hb
        · have h64 := hk.a2 p hp
          rw [Nat.testBit_two_pow] at hb
          have := of_decide_eq_true hb
          omega
        · have := bit_low0 hb; omega
  · rw [Rn.gb_new ha, Rn.bt_lt hk hq]
    split
    · rename_i k hk'
      exact .inl (.inl (orAll_bit.2 ⟨_, lki_mem hk', by simp only [hm, cond_true, Nat.testBit_two_pow_self]⟩))
    · rename_i hno
      rcases hkn with ⟨p, hp, hb⟩ | hb
      · rw [Nat.testBit_two_pow] at hb
        exact absurd (of_decide_eq_true hb) (lki_none hno p hp)
      · have hle := bit_low0 hb
        by_cases h0 : G'.om a = 0
        · rw [h0] at hm
          exact .inl (.inr (by simp only [hm, cond_true, Nat.testBit_or, Nat.testBit_two_pow_self, Bool.or_true]))
        · refine .inr ?_
          have : Nat.beq (m &&& 9223372036854775806) 0 = false := beq_ne fun hz => by
            have : (m &&& 9223372036854775806).testBit (G'.om a) = true := by rw [Nat.testBit_and, hm, bit_low (by omega) hle]; rfl
            rw [hz] at this; simp at this
          simp only [this, cond_false, Nat.testBit_two_pow_self]
theorem Rn.bm_ne {m : Nat} (hs : subM m ρ.known = true) (hm : m ≠ 0) : ρ.bm m ≠ 0 := by
  intro hz
  have key : ∀ t, (ρ.bm m).testBit t = false := fun t => by rw [hz]; simp
  apply hm
  apply Nat.eq_of_testBit_eq
  intro t
  rw [Nat.zero_testBit]
  cases ht : m.testBit t with
  | false => rfl
  | true =>
    exfalso
    have hkn := subM_bit hs ht
    unfold Rn.known at hkn
    rw [Nat.testBit_or, Bool.or_eq_true, orAll_bit] at hkn
    unfold Rn.bm at key
    rcases hkn with ⟨p, hp, hb⟩ | hb
    · rw [Nat.testBit_two_pow] at hb
      have e := of_decide_eq_true hb
      have := key p.1
      rw [Nat.testBit_or, Nat.testBit_or] at this
      have h1 : (orAll (fun p => bif m.testBit p.2 then 2 ^ p.1 else 0) ρ.a).testBit p.1 = true := orAll_bit.2 ⟨p, hp, by simp only [e, ht, cond_true, Nat.testBit_two_pow_self]⟩
      rw [h1] at this
      simp at this
    · have hle := bit_low0 hb
      have := key ρ.c
      rw [Nat.testBit_or, Nat.testBit_or] at this
      by_cases h0 : t = 0
      · subst h0
        simp [ht, Nat.testBit_or, Nat.testBit_two_pow_self] at this
      · have h1 : Nat.beq (m &&& 9223372036854775806) 0 = false := beq_ne fun hz => by
          have : (m &&& 9223372036854775806).testBit t = true := by rw [Nat.testBit_and, ht, bit_low (by omega) hle]; rfl
          rw [hz] at this; simp at this
        simp [h1, Nat.testBit_two_pow_self] at this
theorem VN.back (hk : ρ.Ok) (L : ρ.Left G G' h) {m : Nat} (hs : subM m ρ.known = true) {a : AV} {b : BV} (v : VN G'.om h' m a b) : VN (ρ.gb G G' h.n).om h' (ρ.bm m) a b := by
  induction v with
  | sc hs => exact .sc hs
  | ai => exact .ai
  | sx => exact .sx
  | lsN => exact .lsN
  | lsA ha hk' hm hl hs' hp hn hr ih => exact .lsA ha hk' ⟨Rn.gb_lt hk L hm.1, Rn.bm_bit hk L hm.1 hm.2 hs⟩ hl hs' hp hn ih
  | lsO hm hl hs1 hs' hn hr ih =>
    exact .lsO ⟨hm.1, Rn.gb_lt hk L hm.2.1, Rn.bm_bit hk L hm.2.1 hm.2.2 hs⟩ hl hs1 hs' hn ih
end
end Go.Eng

/- ENGINE 44: the rule for calls, over values of the second kind. -/
set_option linter.unusedVariables false
set_option linter.unusedSimpArgs false
namespace Go.Eng
open Go

inductive RB where
  | ret (v : BV)
  | pan (v : BV)
def RBr (G : Gh) (h : Hp) : Res → RB → Prop
  | .ret a, .ret b => VB G h a b
  | .panic a, .pan b => VB G h a b
  | _, _ => False
/-- A call answers so, whatever memory stands for its arguments. -/
def CallB (call : CallF) (P : Nat → Bool) (f : Nat) (args : List BV) (ob : List (Nat × List BV)) (Φ : RB → List (Nat × List BV) → Prop) : Prop :=
  ∀ G h as, VBs G h as args → (∀ p ∈ ob, ObR G h p.1 p.2) → (∀ a, a < h.n → loc (G.om a) = false) → (0 < h.n ∧ P (G.om 0) = false) → ∃ rA h', call f as h = some (rA, h') ∧ ∃ G' r ob', Go1 P G.om G'.om h h' ∧ (∀ t, hi t = true → G'.pi t = G.pi t) ∧ RBr G' h' rA r ∧ (∀ p ∈ ob', ObR G' h' p.1 p.2) ∧ Φ r ob'
theorem CallB.mono {call : CallF} {P : Nat → Bool} {f : Nat} {args : List BV} {ob : List (Nat × List BV)} {Φ Ψ : RB → List (Nat × List BV) → Prop} (h : CallB call P f args ob Φ) (k : ∀ r ob, Φ r ob → Ψ r ob) : CallB call P f args ob Ψ := fun G hp as h1 h2 h3 h4 =>
  let ⟨rA, h', q1, G', r, ob', q2, q3, q4, q5, q6⟩ := h G hp as h1 h2 h3 h4
  ⟨rA, h', q1, G', r, ob', q2, q3, q4, q5, k _ _ q6⟩

def Rn.pass (ρ : Rn) (ob : List (Nat × List BV)) : List (Nat × Nat) → Option (List (Nat × List BV))
  | [] => some []
  | (τ, t) :: l => match lkp ob τ, ρ.pass ob l with
    | some c, some r => bif BV.within.ws ρ c then some ((t, Rn.out.outs ρ c) :: r) else none
    | _, _ => none
def Rn.backO (ρ : Rn) : List (Nat × List BV) → List (Nat × List BV)
  | [] => []
  | (t, c) :: l => match lki ρ.o t with
    | some τ => (τ, Rn.back.backs ρ c) :: ρ.backO l
    | none => match lkp ρ.n t with
      | some τ => (τ, Rn.back.backs ρ c) :: ρ.backO l
      | none => ρ.backO l
def Rn.okP (ρ : Rn) (P P0 : Nat → Bool) : Bool := !P 0 && !P 63 && !P 1063 && (ρ.a.all fun p => !P p.2 || loc p.1 || P0 p.1) && (ρ.o.all fun p => !P (1000 + p.2) || loc (1000 + p.1) || P0 (1000 + p.1))
def Rn.U (ρ : Rn) (P : Nat → Bool) : Nat := orAll (fun p => bif P p.2 then 2 ^ p.1 else 0) ρ.a
def Rn.D (ρ : Rn) : Nat := orAll (fun p => 2 ^ p.2) ρ.n
def Rn.O (ρ : Rn) (P : Nat → Bool) (t : Nat) : Bool := P (ρ.t (tg t))

section
variable {ρ : Rn} {G G' : Gh} {h h' : Hp}
theorem Rn.gb_pi (hk : ρ.Ok) {t τ n : Nat} (ht : (τ, t) ∈ ρ.o) : (ρ.gb G G' n).pi τ = G.pi τ := by
  simp only [Rn.gb]
  split
  · rename_i u hu; exact absurd rfl (hk.n3 _ (lki_mem hu) _ ht)
  · rfl
theorem Rn.gb_pin (hk : ρ.Ok) {t τ n : Nat} (ht : (t, τ) ∈ ρ.n) : (ρ.gb G G' n).pi τ = G'.pi t := by
  simp only [Rn.gb]
  split
  · rename_i u hu; rw [hk.ni (lki_mem hu) ht]
  · rename_i hno; exact absurd rfl (lki_none hno _ ht)
theorem VB.back (hk : ρ.Ok) (L : ρ.Left G G' h) {a : AV} {b : BV} (v : VB G' h' a b) : VB (ρ.gb G G' h.n) h' a (ρ.back b) := by
  induction v with
  | any => exact .any
  | sc hs' => rw [back_sc hs']; exact .sc hs'
  | ai => exact .ai
  | sx => exact .sx
  | nils => exact .nils
  | ptr hp =>
    simp only [Rn.back]
    split
    · rename_i τ hτ; exact .ptr (by rw [Rn.gb_pi hk (lki_mem hτ), ← L.pi _ _ (lki_mem hτ)]; exact hp)
    · split
      · rename_i τ hτ; exact .ptr (by rw [Rn.gb_pin hk (lkp_mem hτ)]; exact hp)
      · exact .any
  | sl hp =>
    simp only [Rn.back]
    split
    · rename_i τ hτ; exact .sl (by rw [Rn.gb_pi hk (lki_mem hτ), ← L.pi _ _ (lki_mem hτ)]; exact hp)
    · split
      · rename_i τ hτ; exact .sl (by rw [Rn.gb_pin hk (lkp_mem hτ)]; exact hp)
      · exact .any
  | sl0 =>
    simp only [Rn.back]
    split
    · exact .sl0
    · split
      · exact .sl0
      · exact .any
  | @lsN sz own m =>
    simp only [Rn.back]
    cases subM m ρ.known with
    | false => exact .any
    | true =>
      simp only [cond_true]
      cases Nat.beq own 0 with
      | true => exact .lsN
      | false =>
        simp only [cond_false]
        split
        · exact .lsN
        · cases Nat.ble 2 own && Nat.ble own 63 with
          | true => exact .lsN
          | false => exact .any
  | @lsA a off len sz cap k es cs own m ha hk' hq hm ho hl hs' hp hr =>
    simp only [Rn.back]
    cases hsm : subM m ρ.known with
    | false => exact .any
    | true =>
      have hr' : VNs (ρ.gb G G' h.n).om h' (ρ.bm m) cs es.flatten := hr.imp fun _ _ _ v => v.back hk L hsm
      simp only [cond_true]
      by_cases h0 : own = 0
      · subst h0
        simp only [beq_self, cond_true]
        exact .lsA ha hk' (Rn.gb_lt hk L hq) (fun _ => Rn.bm_bit hk L hq (hm rfl) hsm) (fun h => absurd rfl h) hl hs' hp hr'
      · rw [beq_ne h0]
        simp only [cond_false]
        have e1 : own - 1 = G'.om a := by have := ho h0; omega
        split
        · rename_i k' hk''
          rw [e1] at hk''
          refine .lsA ha hk' (Rn.gb_lt hk L hq) (fun h => by omega) (fun _ => ?_) hl hs' hp hr'
          congr 1
          by_cases hlt : a < h.n
          · rw [Rn.gb_old hlt]
            have e := L.om a hlt
            have hq' : G.om a < 1000 := (Rn.t_lt hk).1 (e ▸ hq)
            have h64 := hk.a2 _ (lki_mem hk'')
            simp only at h64
            rw [Rn.t_val hk hq'] at e
            split at e
            · rename_i u hu
              have hu' := lkp_mem hu
              rw [← e] at hu'
              exact hk.ai hu' (lki_mem hk'')
            · cases ht : ρ.am.testBit (G.om a) <;> rw [ht] at e <;> simp only [cond_true, cond_false] at e <;> omega
          · rw [Rn.gb_new hlt, Rn.bt_lt hk hq, hk'']
        · rename_i hno
          rw [e1] at hno
          cases hb : Nat.ble 2 own && Nat.ble own 63 with
          | false => exact .any
          | true =>
            simp only [Bool.and_eq_true, Nat.ble_eq] at hb
            simp only [cond_true]
            refine .lsA ha hk' (Rn.gb_lt hk L hq) (fun _ => ?_) (fun h => absurd rfl h) hl hs' hp (VN.weaks (fun t ht => by rw [Nat.testBit_or, ht, Bool.true_or]) hr')
            by_cases hlt : a < h.n
            · exfalso
              have e := L.om a hlt
              have hq' : G.om a < 1000 := (Rn.t_lt hk).1 (e ▸ hq)
              rw [Rn.t_val hk hq'] at e
              split at e
              · rename_i u hu
                have := hk.a2 _ (lkp_mem hu)
                simp only at this
                omega
              · cases ht : ρ.am.testBit (G.om a) <;> rw [ht] at e <;> simp only [cond_true, cond_false] at e <;> omega
            · rw [Rn.gb_new hlt, Rn.bt_lt hk hq, hno]
              simp only [Nat.testBit_or, Nat.testBit_two_pow_self, Bool.or_true]
  | @lsO rs sz c es m hm hl hs1 hs' hr =>
    simp only [Rn.back]
    cases hsm : subM m ρ.known with
    | false => exact .any
    | true =>
      simp only [cond_true, beq_self]
      exact .lsO ⟨hm.1, Rn.gb_lt hk L hm.2.1, Rn.bm_bit hk L hm.2.1 hm.2.2 hsm⟩ hl hs1 hs' (hr.imp fun _ _ _ v => v.back hk L hsm)
  | @roA a b off k cs as m ha hk' hm hp hr =>
    simp only [Rn.back]
    cases hsm : subM m ρ.known with
    | false => exact .any
    | true => exact .roA ha hk' ⟨Rn.gb_lt hk L hm.1, Rn.bm_bit hk L hm.1 hm.2 hsm⟩ hp (hr.imp fun _ _ _ v => v.back hk L hsm)
  | @roO as off cs m hm hr =>
    simp only [Rn.back]
    cases hsm : subM m ρ.known with
    | false => exact .any
    | true => exact .roO ⟨hm.1, Rn.gb_lt hk L hm.2.1, Rn.bm_bit hk L hm.2.1 hm.2.2 hsm⟩ (hr.imp fun _ _ _ v => v.back hk L hsm)
  | @fn f as cs hn hr ih =>
    simp only [Rn.back, backs_map]
    have : VBs (ρ.gb G G' h.n) h' as (cs.map ρ.back) := L2.map_r (R := fun x y => VB (ρ.gb G G' h.n) h' x (ρ.back y)) ⟨hn, ih⟩ fun a b hb k => k
    exact .fn this.1 this.2
  | iface hr ih => exact .iface ih
  | @agg as cs hn hr ih =>
    simp only [Rn.back, backs_map]
    have : VBs (ρ.gb G G' h.n) h' as (cs.map ρ.back) := L2.map_r (R := fun x y => VB (ρ.gb G G' h.n) h' x (ρ.back y)) ⟨hn, ih⟩ fun a b hb k => k
    exact .agg this.1 this.2
  | @tup as cs hn hr ih =>
    simp only [Rn.back, backs_map]
    have : VBs (ρ.gb G G' h.n) h' as (cs.map ρ.back) := L2.map_r (R := fun x y => VB (ρ.gb G G' h.n) h' x (ρ.back y)) ⟨hn, ih⟩ fun a b hb k => k
    exact .tup this.1 this.2
theorem VBs.back (hk : ρ.Ok) (L : ρ.Left G G' h) {l : List AV} {m : List BV} (v : VBs G' h' l m) : VBs (ρ.gb G G' h.n) h' l (Rn.back.backs ρ m) := by
  rw [backs_map]
  exact v.map_r fun a b hb hv => hv.back hk L
theorem backs_len (ρ : Rn) : ∀ l : List BV, (Rn.back.backs ρ l).length = l.length
  | [] => rfl
  | v :: l => by simp only [Rn.back.backs, List.length_cons, backs_len ρ l]
theorem outs_len (ρ : Rn) : ∀ l : List BV, (Rn.out.outs ρ l).length = l.length
  | [] => rfl
  | v :: l => by simp only [Rn.out.outs, List.length_cons, outs_len ρ l]
theorem lkp_append {α : Type} : ∀ (l m : List (Nat × α)) (t : Nat) (x : α), lkp (l ++ m) t = some x → (t, x) ∈ l ∨ lkp m t = some x
  | [], m, t, x, h => .inr h
  | (a, b) :: l, m, t, x, h => by
    simp only [List.cons_append, lkp] at h
    cases ha : Nat.beq a t with
    | true =>
      have := Nat.eq_of_beq_eq_true ha
      subst this
      rw [ha] at h
      simp only [cond_true, Option.some.injEq] at h; subst h; exact .inl (by simp)
    | false =>
      rw [ha] at h
      rcases lkp_append l m t x h with q | q
      · exact .inl (List.mem_cons_of_mem _ q)
      · exact .inr q
theorem backO_mem : ∀ {l : List (Nat × List BV)} {τ : Nat} {c : List BV}, (τ, c) ∈ ρ.backO l → ∃ t d, (t, d) ∈ l ∧ c = Rn.back.backs ρ d ∧ ((τ, t) ∈ ρ.o ∨ (t, τ) ∈ ρ.n)
  | [], τ, c, h => by simp [Rn.backO] at h
  | (t, d) :: l, τ, c, h => by
    simp only [Rn.backO] at h
    have rec' : (τ, c) ∈ ρ.backO l → ∃ t' d', (t', d') ∈ (t, d) :: l ∧ c = Rn.back.backs ρ d' ∧ ((τ, t') ∈ ρ.o ∨ (t', τ) ∈ ρ.n) := fun hm =>
      let ⟨t', d', q1, q2, q3⟩ := backO_mem hm
      ⟨t', d', List.mem_cons_of_mem _ q1, q2, q3⟩
    split at h
    · rename_i τ' hτ
      rcases List.mem_cons.1 h with e | h
      · simp only [Prod.mk.injEq] at e; obtain ⟨rfl, rfl⟩ := e
        exact ⟨t, d, by simp, rfl, .inl (lki_mem hτ)⟩
      · exact rec' h
    · split at h
      · rename_i τ' hτ
        rcases List.mem_cons.1 h with e | h
        · simp only [Prod.mk.injEq] at e; obtain ⟨rfl, rfl⟩ := e
          exact ⟨t, d, by simp, rfl, .inr (lkp_mem hτ)⟩
        · exact rec' h
      · exact rec' h
variable {T : Nat → Option TI} {ZB : Nat → Option (List BV)} {call : CallF} {bx : List Nat} {ops : List Oper} {bs : Base} {pk pk' : List Nat} {l : List (Oper × List Nat)} {o : Oper} {ws : List Nat} {sl env : List (Nat × BSlot)} {lo ob df : List (Nat × List BV)} {s s' : BS} {Q : QN} {Qp : QP} {d : Nat} {y : BSlot} {v : BV} {r : RS}
theorem pass_sound (hk : ρ.Ok) (hr : RepB G s r) : ∀ {l : List (Nat × Nat)} {obc : List (Nat × List BV)}, (∀ p ∈ l, p ∈ ρ.o) → ρ.pass s.ob l = some obc → (∀ p ∈ obc, ObR (ρ.gh G) r.hp p.1 p.2) ∧ (∀ p ∈ l, p.1 < 128 → ∃ x, G.pi p.1 = some x ∧ x.1 < r.hp.n ∧ G.om x.1 = tg p.1)
  | [], obc, _, h => by simp only [Rn.pass, Option.some.injEq] at h; subst h; simp
  | (τ, t) :: l, obc, hm, h => by
    simp only [Rn.pass] at h
    split at h
    · rename_i c rr hc hrr
      cases hw : BV.within.ws ρ c with
      | false => rw [hw] at h; cases h
      | true =>
        rw [hw] at h
        simp only [cond_true, Option.some.injEq] at h; subst h
        obtain ⟨i1, i2⟩ := pass_sound hk hr (fun p hp => hm p (by simp [hp])) hrr
        have ht : (τ, t) ∈ ρ.o := hm _ (by simp)
        have e1 : lki ρ.o t = some τ := by
          cases hh : lki ρ.o t with
          | none => exact absurd rfl (lki_none hh _ ht)
          | some τ' => rw [hk.oi (lki_mem hh) ht]
        rcases hr.ob τ c hc with ⟨z1, rfl, z3⟩ | ⟨a, b, k, ca, q1, q2, q3, q4, q5, q6⟩
        · refine ⟨fun p hp => ?_, fun p hp => ?_⟩
          · rcases List.mem_cons.1 hp with rfl | hp
            · refine .inl ⟨?_, rfl, by simp only [Rn.gh, e1]; exact z3⟩
              rcases hk.oc _ ht with hh | hh
              · have := hh.1; simp only at this; omega
              · have := hh.2.2.1; simp only at this ⊢; omega
            · exact i1 p hp
          · rcases List.mem_cons.1 hp with rfl | hp
            · intro hh; simp only at hh; omega
            · exact i2 p hp
        refine ⟨fun p hp => ?_, fun p hp => ?_⟩
        · rcases List.mem_cons.1 hp with rfl | hp
          · refine .inr ⟨a, b, k, ca, by simp only [Rn.gh, e1]; exact q1, q2, q3, ?_, by rw [outs_len]; exact q5, VBs.out hk q6 hw⟩
            show ρ.t (G.om a) = tg t
            rw [q4, Rn.t_tg hk ht]
          · exact i1 p hp
        · rcases List.mem_cons.1 hp with rfl | hp
          · exact fun _ => ⟨(a, b), q1, q2, q4⟩
          · exact i2 p hp
    · cases h
theorem ObR.back (hk : ρ.Ok) (L : ρ.Left G G' h) (hpo : ∀ p ∈ ρ.o, p.1 < 128 → ∃ x, G.pi p.1 = some x ∧ x.1 < h.n ∧ G.om x.1 = tg p.1) {t τ : Nat} {c : List BV} (hob : ObR G' h' t c) (hm : (τ, t) ∈ ρ.o ∨ (t, τ) ∈ ρ.n) : ObR (ρ.gb G G' h.n) h' τ (Rn.back.backs ρ c) := by
  rcases hob with ⟨z1, rfl, z3⟩ | ⟨a, b, k, ca, q1, q2, q3, q4, q5, q6⟩
  · rcases hm with hm | hm
    · refine .inl ⟨?_, rfl, by rw [Rn.gb_pi hk hm, ← L.pi _ _ hm]; exact z3⟩
      rcases hk.oc _ hm with hh | hh
      · have := hh.2.2; simp only at this; omega
      · exact hh.1
    · have := (hk.n1 _ hm).2; simp only at this; omega
  rcases hm with hm | hm
  · have e := L.pi _ _ hm
    rw [q1] at e
    refine .inr ⟨a, b, k, ca, by rw [Rn.gb_pi hk hm]; exact e.symm, q2, q3, ?_, by rw [backs_len]; exact q5, VBs.back hk L q6⟩
    by_cases hlt : a < h.n
    · rw [Rn.gb_old hlt]
      have e2 := L.om a hlt
      rw [q4] at e2
      rcases hk.oc _ hm with ⟨h1, h2, h3⟩ | ⟨h1, h2, h3, h4, h5⟩
      · simp only at h1
        obtain ⟨⟨a', b'⟩, x1, x2, x3⟩ := hpo _ hm h1
        simp only at x1 x3
        rw [x1] at e
        simp only [Option.some.injEq, Prod.mk.injEq] at e
        obtain ⟨rfl, rfl⟩ := e
        exact x3
      · simp only at h1 h2 h3 h4 h5
        rw [tg_mid (by omega) h4] at e2
        rw [tg_mid (by omega) h2]
        have hq : G.om a < 1000 := (Rn.t_lt hk).1 (by omega)
        rw [Rn.t_val hk hq] at e2
        split at e2
        · rename_i u hu
          rw [← e2] at hu
          exact hk.ai (lkp_mem hu) (lkp_mem h5)
        · cases hb : ρ.am.testBit (G.om a) <;> rw [hb] at e2 <;> simp only [cond_true, cond_false] at e2 <;> omega
    · rw [Rn.gb_new hlt, q4]
      rcases hk.oc _ hm with ⟨h1, h2, h3⟩ | ⟨h1, h2, h3, h4, h5⟩
      · simp only at h1
        obtain ⟨⟨a', b'⟩, x1, x2, x3⟩ := hpo _ hm h1
        simp only at x1
        rw [x1] at e
        simp only [Option.some.injEq, Prod.mk.injEq] at e
        obtain ⟨rfl, rfl⟩ := e
        exact absurd x2 hlt
      · simp only at h1 h2 h3 h4 h5
        rw [tg_mid (by omega) h4, tg_mid (by omega) h2, Rn.bt_lt hk (by omega)]
        split
        · rename_i k' hk'; exact hk.ai (lki_mem hk') (lkp_mem h5)
        · rename_i hno
          have := lki_none hno _ (lkp_mem h5)
          simp only [ne_eq, not_true_eq_false] at this
  · have n2 := (hk.n1 _ hm).2
    simp only at n2
    rw [tg_lo (by omega)] at q4
    refine .inr ⟨a, b, k, ca, by rw [Rn.gb_pin hk hm]; exact q1, q2, q3, ?_, by rw [backs_len]; exact q5, VBs.back hk L q6⟩
    by_cases hlt : a < h.n
    · exfalso
      have e := L.om a hlt
      rw [q4] at e
      have hge : ¬ G.om a < 1000 := fun hh => by have := (Rn.t_lt hk).2 hh; omega
      have n1 := hk.n1 _ hm
      simp only at n1
      by_cases hf : G.om a < 1128
      · rw [show G.om a = 1000 + (G.om a - 1000) from by omega, Rn.t_obj hk (by omega)] at e
        split at e
        · rename_i u hu
          have h64 : 64 ≤ u := hk.o1 _ (lkp_mem hu)
          have e' : t = u := Nat.add_left_cancel e
          omega
        · omega
      · rw [Rn.t_far hk (by omega)] at e; omega
    · rw [Rn.gb_new hlt, q4, Rn.bt_obj hk, tg_lo (show τ < 128 by have := (hk.n2 _ hm).2; simp only at this; omega)]
      split
      · rename_i τ' hτ'
        rw [hk.nj (lkp_mem hτ') hm]
      · rename_i hno; exact absurd rfl (lkp_none hno _ hm)
theorem xb_call {f : Operand} {args : Array Operand} {ts : Array Nat} {g : Nat} {cap al args' : List BV} {obc : List (Nat × List BV)} {P : Nat → Bool} {Φ : RB → List (Nat × List BV) → Prop} (ρ : Rn) (hw : wantB ops env o = some true) (ho : o.op = .call ⟨.value f, args, ts⟩) (hd : o.dst = some d) (hf : BS.val ⟨sl, env, lo, ob, df⟩ f = some (.fn g cap)) (hl : BS.vals ZB ⟨sl, env, lo, ob, df⟩ args.toList ts.toList = some al)
    (hρ : ρ.ok = true) (hwi : BV.within.ws ρ (al ++ cap) = true) (hpo : ρ.pass ob ρ.o = some obc) (hP : ρ.okP P bs.P = true) (ha : Rn.out.outs ρ (al ++ cap) = args') (hc : CallB call P g args' obc Φ) (hs : pkSs ops ⟨sl, env, lo, ob, df⟩ (ρ.O P) pk = true) (hn : pkNs ops o.dst pk = true) (hk : subN ws pk = true)
    (h1 : ∀ v ob', Φ (.ret v) ob' → XRB T call bx ops bs pk l ⟨frS (ρ.U P) ρ.D sl, (d, .v (ρ.back v)) :: frS (ρ.U P) ρ.D env, frL (ρ.U P) ρ.D lo, ρ.backO ob' ++ frO (ρ.U P) ρ.D (ρ.O P) ob, frL (ρ.U P) ρ.D df⟩ Q Qp)
    (h2 : ∀ v ob', Φ (.pan v) ob' → Qp (ρ.back v) (frS (ρ.U P) ρ.D sl) (frS (ρ.U P) ρ.D env) (frL (ρ.U P) ρ.D lo) (ρ.backO ob' ++ frO (ρ.U P) ρ.D (ρ.O P) ob) (frL (ρ.U P) ρ.D df)) : XRB T call bx ops bs pk ((o, ws) :: l) ⟨sl, env, lo, ob, df⟩ Q Qp := by
  subst ha
  intro G r hr hcg hp
  have hk' := Rn.ok_iff hρ
  obtain ⟨a, a1, a2⟩ := hr.val hf
  obtain ⟨ca, rfl, a3⟩ := a2.fn_inv
  obtain ⟨m, m1, m2⟩ := hr.vals hl
  obtain ⟨p1, p2⟩ := pass_sound hk' hr (fun p hp => hp) hpo
  simp only [Rn.okP, Bool.and_eq_true, Bool.not_eq_true', List.all_eq_true, Bool.or_eq_true] at hP
  obtain ⟨⟨⟨⟨P0, P63⟩, P1063⟩, Pa⟩, Po⟩ := hP
  have hloc : ∀ a, a < r.hp.n → loc ((ρ.gh G).om a) = false := fun a _ => by
    show loc (ρ.t (G.om a)) = false
    have hl : ∀ u, 64 ≤ u → u < 1000 → loc u = false := fun u h1 h2 => by
      unfold loc
      cases e1 : Nat.ble 1 u && Nat.ble u 62 with
      | true => simp only [Bool.and_eq_true, Nat.ble_eq] at e1; omega
      | false =>
        cases e2 : Nat.ble 1001 u && Nat.ble u 1062 with
        | true => simp only [Bool.and_eq_true, Nat.ble_eq] at e2; omega
        | false => rfl
    have hl2 : ∀ u, 1063 ≤ u → loc u = false := fun u h1 => by
      unfold loc
      cases e1 : Nat.ble 1 u && Nat.ble u 62 with
      | true => simp only [Bool.and_eq_true, Nat.ble_eq] at e1; omega
      | false =>
        cases e2 : Nat.ble 1001 u && Nat.ble u 1062 with
        | true => simp only [Bool.and_eq_true, Nat.ble_eq] at e2; omega
        | false => rfl
    by_cases hq : G.om a < 1000
    · rw [Rn.t_val hk' hq]
      split
      · rename_i u hu; exact hl u (hk'.a2 _ (lkp_mem hu)) (hk'.a3 _ (lkp_mem hu))
      · cases ρ.am.testBit (G.om a) <;> rfl
    · by_cases hf : G.om a < 1128
      · rw [show G.om a = 1000 + (G.om a - 1000) from by omega, Rn.t_obj hk' (by omega)]
        split
        · rename_i u hu
          have h64 : 64 ≤ u := hk'.o1 _ (lkp_mem hu)
          exact hl2 _ (Nat.le_trans (show 1063 ≤ 1000 + 64 by decide) (Nat.add_le_add_left h64 1000))
        · rfl
      · rw [Rn.t_far hk' (by omega)]; rfl
  have hold : 0 < r.hp.n ∧ P ((ρ.gh G).om 0) = false := by
    refine ⟨Nat.lt_of_lt_of_le hcg.old.1 hcg.go.n, ?_⟩
    show P (ρ.t (G.om 0)) = false
    rw [hcg.go.om 0 hcg.old.1]
    have hy := hcg.ok 0 hcg.old.1
    have hP0 := hcg.old.2
    by_cases hlt : bs.om 0 < 1000
    · rw [Rn.t_val hk' hlt]
      split
      · rename_i u hu
        rcases Pa _ (lkp_mem hu) with (h | h) | h
        · exact h
        · rw [h] at hy; cases hy
        · rw [h] at hP0; cases hP0
      · cases ρ.am.testBit (bs.om 0) <;> first | exact P0 | exact P63
    · by_cases hf : bs.om 0 < 1128
      · have e : bs.om 0 = 1000 + (bs.om 0 - 1000) := by omega
        rw [e] at hy hP0 ⊢
        rw [Rn.t_obj hk' (by omega)]
        split
        · rename_i u hu
          rcases Po _ (lkp_mem hu) with (h | h) | h
          · exact h
          · rw [h] at hy; cases hy
          · rw [h] at hP0; cases hP0
        · exact P1063
      · rw [Rn.t_far hk' (by omega)]; exact P1063
  obtain ⟨rA, h', q1, G', rb, ob', g, gpi, gr, gob, gΦ⟩ := hc (ρ.gh G) r.hp (m ++ ca) (VBs.out hk' (m2.append a3) hwi) p1 hloc hold
  have L : ρ.Left G G' r.hp := ⟨fun a ha => g.om a ha, fun t τ ht => by
    have e1 : lki ρ.o t = some τ := by
      cases hh : lki ρ.o t with
      | none => exact absurd rfl (lki_none hh _ ht)
      | some τ' => rw [hk'.oi (lki_mem hh) ht]
    have := gpi t (hk'.oh ht)
    simp only [Rn.gh, e1] at this
    exact this⟩
  have hgo : Go1 (fun t => P (ρ.t t)) G.om (ρ.gb G G' r.hp.n).om r.hp h' := ⟨g.n, fun a ha hq => g.get a ha hq, fun a ha => Rn.gb_old ha⟩
  have hwi' : Wi (fun t => P (ρ.t t)) (ρ.U P) := fun t ht hq => by
    simp only [Rn.t_val hk' ht] at hq
    split at hq
    · rename_i u hu; exact orAll_bit.2 ⟨_, lkp_mem hu, by simp only [hq, cond_true, Nat.testBit_two_pow_self]⟩
    · cases ht : ρ.am.testBit t <;> rw [ht] at hq <;> simp only [cond_true, cond_false, P0, P63] at hq <;> cases hq
  have hO : ∀ t, ρ.O P t = false → (fun t => P (ρ.t t)) (tg t) = false := fun t ht => ht
  have hpi : ∀ t, ρ.D.testBit t = false → (ρ.gb G G' r.hp.n).pi t = G.pi t := fun t ht => by
    simp only [Rn.gb]
    split
    · rename_i u hu
      have : ρ.D.testBit t = true := orAll_bit.2 ⟨_, lki_mem hu, by simp [Nat.testBit_two_pow_self]⟩
      rw [ht] at this; cases this
    · rfl
  have hcg' : Cg bs (ρ.gb G G' r.hp.n) h' := hcg.step hgo (fun a ha hq => by
    have hlocb := hcg.ok a ha
    by_cases hlt : bs.om a < 1000
    · simp only [Rn.t_val hk' hlt] at hq
      split at hq
      · rename_i u hu
        rcases Pa _ (lkp_mem hu) with (h | h) | h
        · rw [h] at hq; cases hq
        · rw [h] at hlocb; cases hlocb
        · exact h
      · cases ht : ρ.am.testBit (bs.om a) <;> rw [ht] at hq <;> simp only [cond_true, cond_false, P0, P63] at hq <;> cases hq
    · have hf : bs.om a < 1128 := Nat.lt_of_not_le fun hh => by simp only [Rn.t_far hk' hh, P1063] at hq; cases hq
      have e : bs.om a = 1000 + (bs.om a - 1000) := by omega
      rw [e] at hq ⊢
      simp only [Rn.t_obj hk' (show bs.om a - 1000 < 128 by omega)] at hq
      split at hq
      · rename_i u hu
        rcases Po _ (lkp_mem hu) with (h | h) | h
        · rw [h] at hq; cases hq
        · rw [e, h] at hlocb; cases hlocb
        · exact h
      · rw [P1063] at hq; cases hq) (fun t ht => by
      simp only [Rn.gb]
      split
      · rename_i u hu
        have h1 := hk'.n2 _ (lki_mem hu)
        have h2 := hi_64 ht
        simp only at h1
        omega
      · rfl)
  have hrf := hr.fr (h' := h') hgo hwi' hO hpi
  have hob : ∀ t c, lkp (ρ.backO ob' ++ frO (ρ.U P) ρ.D (ρ.O P) ob) t = some c → ObR (ρ.gb G G' r.hp.n) h' t c := fun t c hc => by
    rcases lkp_append _ _ _ _ hc with hm | hm
    · obtain ⟨u, dd, z1, rfl, z3⟩ := backO_mem hm
      exact ObR.back hk' L p2 (gob _ z1) z3
    · exact hrf.ob t c hm
  have hp' := pk_hp hr hgo hO hs hp
  simp only [runOps, wantB_sound hr hw]
  cases rb with
  | ret vb =>
    cases rA with
    | panic _ => exact gr.elim
    | ret va =>
      have ho' : oop T call bx o r none = some (.ok (({ r with hp := h' } : RS).put o.dst (.v va)) none) := by simp only [oop, ho, oCall, oCallV, a1, m1, q1]
      simp only [ho']
      have hrk : reck T ops (({ r with hp := h' } : RS).put o.dst (.v va)) ws = true := pk_reck hk (pk_put hn hp')
      rw [if_pos hrk, hd]
      refine h1 vb ob' gΦ (ρ.gb G G' r.hp.n) _ ?_ hcg' (by rw [hd] at hn; exact pk_put hn hp')
      exact ⟨.cons ⟨rfl, .v (VB.back hk' L gr)⟩ hrf.env, hrf.sl, hrf.lo, hob, hrf.df⟩
  | pan vb =>
    cases rA with
    | ret _ => exact gr.elim
    | panic va =>
      have ho' : oop T call bx o r none = some (.panic va { r with hp := h' }) := by simp only [oop, ho, oCall, oCallV, a1, m1, q1]
      simp only [ho']
      refine ⟨_, rfl, ρ.gb G G' r.hp.n, ⟨frS (ρ.U P) ρ.D sl, frS (ρ.U P) ρ.D env, frL (ρ.U P) ρ.D lo, ρ.backO ob' ++ frO (ρ.U P) ρ.D (ρ.O P) ob, frL (ρ.U P) ρ.D df⟩, ρ.back vb, ?_, hcg', VB.back hk' L gr, h2 vb ob' gΦ⟩
      exact ⟨hrf.env, hrf.sl, hrf.lo, hob, hrf.df⟩
end
end Go.Eng

/- ENGINE 45: rules for code, over values of the second kind. -/
set_option linter.unusedVariables false
set_option linter.unusedSimpArgs false
namespace Go.Eng
open Go

inductive BX where
  | normal
  | exit (id : Nat)
  | ret
  | panic (v : BV)
inductive BXr (G : Gh) (h : Hp) : AExit → BX → Prop
  | normal : BXr G h .normal .normal
  | exit {i} : BXr G h (.exit i) (.exit i)
  | ret : BXr G h .ret .ret
  | panic {a b} (hv : VB G h a b) : BXr G h (.panic a) (.panic b)
structure RepBS (G : Gh) (N : Nat) (s : BS) (st : St) : Prop where
  len : N ≤ st.sl.length
  sl : ∀ t y, lkp s.sl t = some y → ∃ x, st.sl[t]? = some x ∧ SlotB G st.hp x y
  lo : ∀ u c, lkp s.lo u = some c → ∃ d, lkc st.lo u = some d ∧ VBs G st.hp d c
  ob : ∀ t c, lkp s.ob t = some c → ObR G st.hp t c
  df : L2 (fun x y => x.1 = y.1 ∧ VBs G st.hp x.2 y.2) st.df s.df
abbrev SL := List (Nat × BSlot)
abbrev LO := List (Nat × List BV)
abbrev QB := BX → SL → LO → LO → LO → Prop
def XB (T : Nat → Option TI) (call : CallF) (h : FH) (N : Nat) (bs : Base) (c : Code) (sl : SL) (lo ob df : LO) (Q : QB) : Prop :=
  ∀ G st, RepBS G N ⟨sl, [], lo, ob, df⟩ st → Cg bs G st.hp → ∃ e st', execL T call h c st = some (e, st') ∧ ∃ G' x sl' lo' ob' df', RepBS G' N ⟨sl', [], lo', ob', df'⟩ st' ∧ Cg bs G' st'.hp ∧ BXr G' st'.hp e x ∧ Q x sl' lo' ob' df'

/-- The slots behind a region. -/
def clB (t : Nat) : BSlot → BSlot
  | .lr u off => bif Nat.beq u t && Nat.beq off 0 then .lr t 0 else .none
  | y => y
def putB (t : Nat) (y : BSlot) : SL → SL
  | [] => [(t, y)]
  | (u, x) :: l => bif Nat.beq u t then (t, y) :: l else (u, x) :: putB t y l
def outsB (env : SL) : List Nat → SL → SL
  | [], sl => sl
  | t :: r, sl => outsB env r (match lkp env t with | some x => putB t (clB t x) sl | none => sl)
theorem putB_lk (t : Nat) (y : BSlot) : ∀ (l : SL) (u : Nat), lkp (putB t y l) u = if u = t then some y else lkp l u
  | [], u => by
    simp only [putB, lkp]
    by_cases h : u = t
    · subst h; simp
    · rw [beq_ne (fun e => h e.symm), cond_false, if_neg h]
  | (w, x) :: l, u => by
    simp only [putB]
    cases hw : Nat.beq w t with
    | true =>
      have := Nat.eq_of_beq_eq_true hw
      subst this
      simp only [cond_true, lkp]
      by_cases h : u = w
      · subst h; simp
      · rw [beq_ne (fun e => h e.symm), cond_false, cond_false, if_neg h]
    | false =>
      have hne : w ≠ t := by rintro rfl; simp at hw
      simp only [cond_false, lkp, putB_lk t y l u]
      by_cases h : u = t
      · subst h; rw [beq_ne hne, cond_false]; simp
      · simp only [if_neg h]
theorem outsB_spec {G : Gh} {h : Hp} {envA : List (Nat × Slot)} {env : SL} (he : L2 (fun x y => x.1 = y.1 ∧ SlotB G h x.2 y.2) envA env) : ∀ (out : List Nat) (sl : SL) (L : List Slot), (∀ t ∈ out, t < L.length) → (∀ t y, lkp sl t = some y → ∃ x, L[t]? = some x ∧ SlotB G h x y) → ∀ t y, lkp (outsB env out sl) t = some y → ∃ x, (setOut envA out L)[t]? = some x ∧ SlotB G h x y
  | [], sl, L, _, hk, t, y, hy => hk t y hy
  | u :: out, sl, L, hb, hk, t, y, hy => by
    simp only [outsB] at hy
    have hu := env_lk he u
    cases hl : lkp env u with
    | none =>
      rw [hl] at hy
      have e : setOut envA (u :: out) L = setOut envA out L := by simp only [setOut, hu.1 hl]
      rw [e]
      exact outsB_spec he out sl L (fun t ht => hb t (by simp [ht])) hk t y hy
    | some b =>
      rw [hl] at hy
      obtain ⟨a, a1, a2⟩ := hu.2 b hl
      obtain ⟨z, ez, hz⟩ : ∃ z, setOut envA (u :: out) L = setOut envA out (L.set u z) ∧ SlotB G h z (clB u b) := by
        cases a2 with
        | @v a b hv => exact ⟨.v a, by simp only [setOut, a1], .v hv⟩
        | @lr w o =>
          by_cases hw : w = u ∧ o = 0
          · obtain ⟨rfl, rfl⟩ := hw
            exact ⟨.lr w 0, by simp only [setOut, a1, and_self, if_true], by simp only [clB, beq_self, Bool.and_self, cond_true]; exact .lr⟩
          · refine ⟨.none, by simp only [setOut, a1, if_neg hw], ?_⟩
            have : (Nat.beq w u && Nat.beq o 0) = false := by
              cases h1 : Nat.beq w u && Nat.beq o 0 with
              | false => rfl
              | true =>
                simp only [Bool.and_eq_true] at h1
                exact absurd ⟨Nat.eq_of_beq_eq_true h1.1, Nat.eq_of_beq_eq_true h1.2⟩ hw
            simp only [clB, this, cond_false]; exact .nn
        | @nv a => exact ⟨.v a, by simp only [setOut, a1], .nv⟩
        | nn => exact ⟨.none, by simp only [setOut, a1], .nn⟩
      rw [ez]
      refine outsB_spec he out _ _ (fun t ht => by simp only [List.length_set]; exact hb t (by simp [ht])) (fun t y hy => ?_) t y hy
      rw [putB_lk] at hy
      rw [List.getElem?_set]
      split at hy
      · rename_i ht
        subst ht
        simp only [Option.some.injEq] at hy; subst hy
        rw [if_pos rfl, if_pos (hb t (by simp))]
        exact ⟨z, rfl, hz⟩
      · rename_i ht
        rw [if_neg (fun e => ht e.symm)]; exact hk t y hy
def noOut (out : List Nat) : SL → SL
  | [] => []
  | (t, y) :: l => bif mem t out then noOut out l else (t, y) :: noOut out l
theorem noOut_lk (out : List Nat) : ∀ (l : SL) (t : Nat) (y : BSlot), lkp (noOut out l) t = some y → lkp l t = some y ∧ t ∉ out
  | [], t, y, h => by simp [noOut, lkp] at h
  | (u, x) :: l, t, y, h => by
    simp only [noOut] at h
    cases hm : mem u out with
    | true =>
      rw [hm] at h
      obtain ⟨h1, h2⟩ := noOut_lk out l t y h
      refine ⟨?_, h2⟩
      simp only [lkp]
      cases he : Nat.beq u t with
      | false => simpa using h1
      | true =>
        have := Nat.eq_of_beq_eq_true he
        subst this
        exact absurd ((mem_iff _ _).1 hm) h2
    | false =>
      rw [hm] at h
      simp only [cond_false, lkp] at h ⊢
      cases he : Nat.beq u t with
      | true =>
        have := Nat.eq_of_beq_eq_true he
        subst this
        rw [he] at h
        exact ⟨h, fun hh => by rw [(mem_iff _ _).2 hh] at hm; cases hm⟩
      | false =>
        rw [he] at h
        exact noOut_lk out l t y h

section
variable {T : Nat → Option TI} {call : CallF} {h : FH} {N : Nat} {bs : Base} {sl sl' : SL} {lo lo' ob ob' df df' : LO} {Q Q' : QB} {c a b : Code}

theorem y_mono (hx : XB T call h N bs c sl lo ob df Q) (hq : ∀ x sl lo ob df, Q x sl lo ob df → Q' x sl lo ob df) : XB T call h N bs c sl lo ob df Q' := fun G st hst hc =>
  let ⟨e, st', h1, G', x, sl', lo', ob', df', h2, h3, h4, h5⟩ := hx G st hst hc
  ⟨e, st', h1, G', x, sl', lo', ob', df', h2, h3, h4, hq _ _ _ _ _ h5⟩
theorem y_skip (hq : Q .normal sl lo ob df) : XB T call h N bs .skip sl lo ob df Q := fun G st hst hc => ⟨_, _, rfl, G, .normal, sl, lo, ob, df, hst, hc, .normal, hq⟩
theorem y_ret (hq : Q .ret sl lo ob df) : XB T call h N bs .ret sl lo ob df Q := fun G st hst hc => ⟨_, _, rfl, G, .ret, sl, lo, ob, df, hst, hc, .ret, hq⟩
theorem y_exit {id : Nat} (hq : Q (.exit id) sl lo ob df) : XB T call h N bs (.exit id) sl lo ob df Q := fun G st hst hc => ⟨_, _, rfl, G, .exit id, sl, lo, ob, df, hst, hc, .exit, hq⟩
/-- What comes behind a code, in a row. -/
def ThenB (T : Nat → Option TI) (call : CallF) (h : FH) (N : Nat) (bs : Base) (b : Code) (Q : QB) : QB
  | .normal, sl, lo, ob, df => XB T call h N bs b sl lo ob df Q
  | x, sl, lo, ob, df => Q x sl lo ob df
theorem y_seq (hx : XB T call h N bs a sl lo ob df (ThenB T call h N bs b Q)) : XB T call h N bs (.seq a b) sl lo ob df Q := by
  intro G st hst hc
  obtain ⟨e, st1, h1, G', x, sl', lo', ob', df', h2, h3, h4, h5⟩ := hx G st hst hc
  simp only [execL, h1]
  cases h4 with
  | normal => exact h5 G' st1 h2 h3
  | exit => exact ⟨_, _, rfl, G', _, sl', lo', ob', df', h2, h3, .exit, h5⟩
  | ret => exact ⟨_, _, rfl, G', _, sl', lo', ob', df', h2, h3, .ret, h5⟩
  | panic hv => exact ⟨_, _, rfl, G', _, sl', lo', ob', df', h2, h3, .panic hv, h5⟩
theorem RepBS.slot {G : Gh} {st : St} (hst : RepBS G N ⟨sl, [], lo, ob, df⟩ st) {x : Operand} {p : Bool} (hs : BS.slot ⟨sl, [], lo, ob, df⟩ x = some (.v (.bool p))) : slotS st.sl x = some (.v (.bool p)) := by
  cases x with
  | tmp t =>
    simp only [BS.slot, lkp] at hs
    obtain ⟨y, h1, h2⟩ := hst.sl t _ hs
    cases h2 with
    | v hv => have := hv.bool; subst this; exact h1
  | const v =>
    simp only [BS.slot] at hs
    split at hs
    · rename_i a ha
      split at hs
      · rename_i b' hb
        simp only [Option.some.injEq, BSlot.v.injEq] at hs; subst hs
        have := (cvB_sound (G := G) (h := st.hp) hb).bool
        subst this
        simp only [slotS, ha, Option.map_some]
      · cases hs
    · cases hs
  | func f => simp [BS.slot] at hs
  | global g => simp [BS.slot] at hs
theorem y_cond {x : Operand} {p : Bool} (hc : BS.slot ⟨sl, [], lo, ob, df⟩ x = some (.v (.bool p))) (ha : p = true → XB T call h N bs a sl lo ob df Q) (hb : p = false → XB T call h N bs b sl lo ob df Q) : XB T call h N bs (.cond x a b) sl lo ob df Q := by
  intro G st hst hcg
  simp only [execL, hst.slot hc]
  cases p with
  | true => exact ha rfl G st hst hcg
  | false => exact hb rfl G st hst hcg
/-- What comes behind a block. -/
def OutB (id : Nat) (Q : QB) : QB
  | .exit i, sl, lo, ob, df => bif Nat.beq i id then Q .normal sl lo ob df else Q (.exit i) sl lo ob df
  | x, sl, lo, ob, df => Q x sl lo ob df
theorem y_block {id : Nat} (hx : XB T call h N bs c sl lo ob df (OutB id Q)) : XB T call h N bs (.block id c) sl lo ob df Q := by
  intro G st hst hc
  obtain ⟨e, st1, h1, G', x, sl', lo', ob', df', h2, h3, h4, h5⟩ := hx G st hst hc
  simp only [execL, h1]
  cases h4 with
  | normal => exact ⟨_, _, rfl, G', _, sl', lo', ob', df', h2, h3, .normal, h5⟩
  | @exit i =>
    simp only [OutB] at h5
    cases hi : Nat.beq i id with
    | true => rw [hi] at h5; exact ⟨.normal, st1, by simp only [hi, cond_true], G', .normal, sl', lo', ob', df', h2, h3, .normal, h5⟩
    | false => rw [hi] at h5; exact ⟨.exit i, st1, by simp only [hi, cond_false], G', .exit i, sl', lo', ob', df', h2, h3, .exit, h5⟩
  | ret => exact ⟨_, _, rfl, G', _, sl', lo', ob', df', h2, h3, .ret, h5⟩
  | panic hv => exact ⟨_, _, rfl, G', _, sl', lo', ob', df', h2, h3, .panic hv, h5⟩

/-- Everything that the one names, the other names too. -/
def SubB {α : Type} (l l' : List (Nat × α)) : Prop := ∀ t y, lkp l t = some y → lkp l' t = some y
theorem SubB.nil {α : Type} {l' : List (Nat × α)} : SubB [] l' := fun t y h => by simp [lkp] at h
theorem SubB.cons {α : Type} {n : Nat} {x : α} {l l' : List (Nat × α)} (h : lkp l' n = some x) (hs : SubB l l') : SubB ((n, x) :: l) l' := by
  intro t y hy
  simp only [lkp] at hy
  cases hn : Nat.beq n t with
  | true =>
    have := Nat.eq_of_beq_eq_true hn
    subst this
    simp only [hn, cond_true, Option.some.injEq] at hy
    subst hy; exact h
  | false => simp only [hn, cond_false] at hy; exact hs t y hy
theorem SubB.refl {α : Type} {l : List (Nat × α)} : SubB l l := fun _ _ h => h
theorem RepBS.weak {G : Gh} {st : St} {s : BS} (hst : RepBS G N s st) (h1 : SubB sl' s.sl) (h2 : SubB lo' s.lo) (h3 : SubB ob' s.ob) : RepBS G N ⟨sl', [], lo', ob', s.df⟩ st :=
  ⟨hst.len, fun t y hy => hst.sl t y (h1 t y hy), fun u d hd => hst.lo u d (h2 u d hd), fun t c hc => hst.ob t c (h3 t c hc), hst.df⟩
/-- What is known may be forgotten. -/
theorem y_weak (h1 : SubB sl' sl) (h2 : SubB lo' lo) (h3 : SubB ob' ob) (hx : XB T call h N bs c sl' lo' ob' df Q) : XB T call h N bs c sl lo ob df Q := fun G st hst hc =>
  hx G st (hst.weak h1 h2 h3) hc
/-- A stop on the way, where some roads meet: what is known there, told by 'a'. -/
def JoinB {α : Type} (f : α → SL) (g o : α → LO) (P : α → Prop) (df0 : LO) (Q : QB) : QB
  | .normal, sl, lo, ob, df => ∃ a, SubB (f a) sl ∧ SubB (g a) lo ∧ SubB (o a) ob ∧ df = df0 ∧ P a
  | x, sl, lo, ob, df => Q x sl lo ob df
theorem y_join {α : Type} (f : α → SL) (g o : α → LO) (P : α → Prop) (h1 : XB T call h N bs a sl lo ob df (JoinB f g o P df' Q)) (h2 : ∀ v, P v → XB T call h N bs b (f v) (g v) (o v) df' Q) : XB T call h N bs (.seq a b) sl lo ob df Q := by
  refine y_seq (y_mono h1 fun x sl lo ob df hj => ?_)
  cases x with
  | normal =>
    obtain ⟨v, q1, q2, q3, rfl, q5⟩ := hj
    exact y_weak q1 q2 q3 (h2 v q5)
  | _ => exact hj
/-! #### Loops -/
def itN {σ β : Type} (f : σ → Option (σ ⊕ β)) : Nat → σ → Option β
  | 0, _ => none
  | n + 1, s => match f s with
    | some (.inl s') => itN f n s'
    | some (.inr b) => some b
    | none => none
def RoundB {σ β : Type} (f : σ → SL) (g o : σ → LO) (df0 : LO) (r : σ ⊕ β) (Qb : β → QB) : QB
  | .normal, sl, lo, ob, df => ∃ s, r = .inl s ∧ SubB (f s) sl ∧ SubB (g s) lo ∧ SubB (o s) ob ∧ df = df0
  | x, sl, lo, ob, df => ∃ b, r = .inr b ∧ Qb b x sl lo ob df
/-- A loop whose rounds are those of 'body'. -/
theorem y_loop {σ β : Type} {body : σ → Option (σ ⊕ β)} {n : Nat} {s0 : σ} {r : β} (f : σ → SL) (g o : σ → LO) (Qb : β → QB) (hit : itN body n s0 = some r) (h1 : SubB (f s0) sl) (h2 : SubB (g s0) lo) (h3 : SubB (o s0) ob)
    (hb : ∀ s w, body s = some w → XB T call h N bs c (f s) (g s) (o s) df (RoundB f g o df w Qb)) (hq : ∀ x sl lo ob df, Qb r x sl lo ob df → Q x sl lo ob df) : XB T call h N bs (.loop c) sl lo ob df Q := by
  have key : ∀ (n : Nat) (s : σ) (sl : SL) (lo ob : LO), itN body n s = some r → SubB (f s) sl → SubB (g s) lo → SubB (o s) ob → ∀ G st, RepBS G N ⟨sl, [], lo, ob, df⟩ st → Cg bs G st.hp → ∃ e st' k, iter (execL T call h c) k st = some (e, st') ∧ ∃ G' x sl' lo' ob' df', RepBS G' N ⟨sl', [], lo', ob', df'⟩ st' ∧ Cg bs G' st'.hp ∧ BXr G' st'.hp e x ∧ Qb r x sl' lo' ob' df' := by
    intro n
    induction n with
    | zero => intro s sl lo ob hi; simp [itN] at hi
    | succ n ih =>
      intro s sl lo ob hi k1 k2 k3 G st hst hc
      simp only [itN] at hi
      split at hi
      · rename_i s' hs'
        obtain ⟨e, st1, q1, G', x, sl', lo', ob', df', q2, q3, q4, q5⟩ := hb s _ hs' G st (hst.weak k1 k2 k3) hc
        cases q4 with
        | normal =>
          obtain ⟨s'', e1, e2, e3, e4, rfl⟩ := q5
          simp only [Sum.inl.injEq] at e1; subst e1
          obtain ⟨e, st2, k, w1, w2⟩ := ih s' sl' lo' ob' hi e2 e3 e4 G' st1 q2 q3
          exact ⟨e, st2, k + 1, by simp only [iter, q1]; exact w1, w2⟩
        | exit => obtain ⟨b, e1, _⟩ := q5; cases e1
        | ret => obtain ⟨b, e1, _⟩ := q5; cases e1
        | panic => obtain ⟨b, e1, _⟩ := q5; cases e1
      · rename_i b hb'
        simp only [Option.some.injEq] at hi; subst hi
        obtain ⟨e, st1, q1, G', x, sl', lo', ob', df', q2, q3, q4, q5⟩ := hb s _ hb' G st (hst.weak k1 k2 k3) hc
        cases q4 with
        | normal => obtain ⟨b, e1, _⟩ := q5; cases e1
        | exit =>
          obtain ⟨b', e1, e2⟩ := q5
          simp only [Sum.inr.injEq] at e1; subst e1
          exact ⟨_, st1, 1, by simp only [iter, q1], G', _, sl', lo', ob', df', q2, q3, .exit, e2⟩
        | ret =>
          obtain ⟨b', e1, e2⟩ := q5
          simp only [Sum.inr.injEq] at e1; subst e1
          exact ⟨_, st1, 1, by simp only [iter, q1], G', _, sl', lo', ob', df', q2, q3, .ret, e2⟩
        | panic hv =>
          obtain ⟨b', e1, e2⟩ := q5
          simp only [Sum.inr.injEq] at e1; subst e1
          exact ⟨_, st1, 1, by simp only [iter, q1], G', _, sl', lo', ob', df', q2, q3, .panic hv, e2⟩
      · cases hi
  intro G st hst hc
  obtain ⟨e, st', k, g1, G', x, sl', lo', ob', df', g2, g3, g4, g5⟩ := key n s0 sl lo ob hit h1 h2 h3 G st hst hc
  exact ⟨e, st', by simp only [execL]; exact iterL_iff.2 ⟨k, g1⟩, G', x, sl', lo', ob', df', g2, g3, g4, hq _ _ _ _ _ g5⟩

theorem runOps_sl {ops : List Oper} {bx : List Nat} {sl0 : List Slot} : ∀ {l : List (Oper × List Nat)} {r : RS} {cm : Option CM} {out : ROut}, runOps T call bx ops l r cm = some out → r.sl = sl0 → (match out with | .ok r' _ => r'.sl = sl0 | .panic _ r' => r'.sl = sl0)
  | [], r, cm, out, h, e => by simp only [runOps, Option.some.injEq] at h; subst h; exact e
  | (o, ws) :: l, r, cm, out, h, e => by
    simp only [runOps] at h
    split at h
    · cases h
    · exact runOps_sl h (by cases o.dst <;> exact e)
    · split at h
      · rename_i s' cm' ho
        have := (oop_env ho).1
        split at h
        · exact runOps_sl h (this.trans e)
        · cases h
      · rename_i v s' ho
        simp only [Option.some.injEq] at h; subst h
        exact (oop_panic_env ho).1.trans e
      · cases h
theorem y_region {id : Nat} {ops : Array Oper} {draw : Bool} {l : List (Oper × List Nat)} (hl : regL h id ops draw = some l) (hN : (h.rh id).out.all (fun t => Nat.blt t N) = true)
    (hx : XRB T call h.bx ops.toList bs [] l ⟨sl, [], lo, ob, df⟩ (fun sl env lo ob df => Q .normal (outsB env (h.rh id).out sl) lo ob df) (fun v sl env lo ob df => Q (.panic v) (noOut (h.rh id).out sl) [] ob df)) : XB T call h N bs (.region id ops draw) sl lo ob df Q := by
  intro G st hst hc
  have hr : RepB G ⟨sl, [], lo, ob, df⟩ ⟨st.sl, [], st.lo, st.hp, st.df⟩ := ⟨.nil, hst.sl, hst.lo, hst.ob, hst.df⟩
  obtain ⟨out, h1, h2⟩ := hx G _ hr hc (by simp)
  have hrl := runOps_sl h1 rfl
  have hb : ∀ t ∈ (h.rh id).out, t < st.sl.length := by
    intro t ht
    rw [List.all_eq_true] at hN
    exact Nat.lt_of_lt_of_le (Nat.le_of_ble_eq_true (hN t ht)) hst.len
  unfold regL at hl
  cases out with
  | ok r' cm =>
    obtain ⟨G', s', hr', hc', hq⟩ := h2
    have e : r'.sl = st.sl := hrl
    refine ⟨.normal, ⟨setOut r'.env (h.rh id).out st.sl, r'.lo, r'.hp, r'.df⟩, by simp only [execL, runRegion, hl, h1], G', .normal, _, _, _, _, ?_, hc', .normal, hq⟩
    exact ⟨by simp only [setOut_len]; exact hst.len, outsB_spec hr'.env _ _ _ hb (by rw [← e]; exact hr'.sl), hr'.lo, hr'.ob, hr'.df⟩
  | panic v r' =>
    obtain ⟨G', s', b, hr', hc', hv, hq⟩ := h2
    have e : r'.sl = st.sl := hrl
    refine ⟨.panic v, ⟨setOut ((h.rh id).out.map fun t => (t, Slot.none)) (h.rh id).out st.sl, (if draw then keepLo ops.toList r'.lo else r'.lo), r'.hp, r'.df⟩, by simp only [execL, runRegion, hl, h1], G', .panic b, _, _, _, _, ?_, hc', .panic hv, hq⟩
    refine ⟨by simp only [setOut_len]; exact hst.len, fun t y hy => ?_, fun u d hd => by simp [lkp] at hd, hr'.ob, hr'.df⟩
    obtain ⟨q1, q2⟩ := noOut_lk _ _ _ _ hy
    obtain ⟨x, x1, x2⟩ := hr'.sl t y q1
    refine ⟨x, ?_, x2⟩
    show (setOut _ _ _)[t]? = some x
    rw [setNone_get _ _ _ _ q2, ← e]
    exact x1
end
end Go.Eng

/- ENGINE 46: rules for functions, over values of the second kind. -/
set_option linter.unusedVariables false
set_option linter.unusedSimpArgs false
namespace Go.Eng
open Go

/-! #### What a call made for itself is told of as new -/
def nm (m : Nat) : Nat := (m >>> 63 <<< 63) ||| (m &&& 1) ||| (bif Nat.beq (m &&& 9223372036854775806) 0 then 0 else 2)
def l1 (t : Nat) : Bool := Nat.ble 1 t && Nat.ble t 62
def rt (t : Nat) : Nat := bif l1 t then 1 else t
def finV (M : Nat) : BV → BV
  | .ls es sz own m => bif Nat.beq own 1 then .any else (bif Nat.ble own 63 then (bif subM (nm m ||| (bif Nat.beq own 0 then 0 else 2)) M then .ls es sz 0 M else .any) else (bif subM (nm m) M then .ls es sz own M else .any))
  | .ro cs off m => bif subM (nm m) M then .ro cs off M else .any
  | .fn f c => .fn f (fins c)
  | .iface t v => .iface t (finV M v)
  | .agg c => .agg (fins c)
  | .tup c => .tup (fins c)
  | v => v
where fins : List BV → List BV
  | [] => []
  | v :: l => finV M v :: fins l
def finO : BV → BV
  | .ls es sz own m => bif Nat.beq own 1 then .any else (bif Nat.beq own 0 then .ls es sz 0 (nm m) else bif Nat.ble own 63 then .ls es sz 0 (nm m ||| 2) else .ls es sz own (nm m))
  | .ro cs off m => .ro cs off (nm m)
  | .fn f c => .fn f (fins c)
  | .iface t v => .iface t (finO v)
  | .agg c => .agg (fins c)
  | .tup c => .tup (fins c)
  | v => v
where fins : List BV → List BV
  | [] => []
  | v :: l => finO v :: fins l
def finOs : LO → LO
  | [] => []
  | (t, c) :: l => bif l1 (tg t) then finOs l else (t, finO.fins c) :: finOs l
def Gh.rt (G : Gh) : Gh := ⟨fun a => Eng.rt (G.om a), G.pi⟩
section
variable {G : Gh} {h : Hp}
theorem rt_lt {t : Nat} : Eng.rt t < 1000 ↔ t < 1000 := by
  unfold Eng.rt
  cases hl : l1 t with
  | true => simp only [l1, Bool.and_eq_true, Nat.ble_eq] at hl; simp only [cond_true]; omega
  | false => simp
theorem nm_bit {m t : Nat} (h : m.testBit t = true) : (nm m).testBit (Eng.rt t) = true := by
  unfold Eng.rt nm
  rw [Nat.testBit_or, Nat.testBit_or, Bool.or_eq_true, Bool.or_eq_true]
  cases hl : l1 t with
  | true =>
    simp only [l1, Bool.and_eq_true, Nat.ble_eq] at hl
    refine .inr ?_
    have : Nat.beq (m &&& 9223372036854775806) 0 = false := beq_ne fun hz => by
      have : (m &&& 9223372036854775806).testBit t = true := by rw [Nat.testBit_and, h, bit_low hl.1 hl.2]; rfl
      rw [hz] at this; simp at this
    rw [this]; simp only [cond_true, cond_false]; decide
  | false =>
    simp only [cond_false]
    have hn : ¬ (1 ≤ t ∧ t ≤ 62) := fun hh => by
      have : l1 t = true := by simp only [l1, Bool.and_eq_true, Nat.ble_eq]; exact hh
      rw [hl] at this; cases this
    by_cases h0 : t = 0
    · subst h0; exact .inl (.inr (by rw [Nat.testBit_and, h]; rfl))
    · refine .inl (.inl ?_)
      have h63 : 63 ≤ t := by omega
      rw [Nat.testBit_shiftLeft, Nat.testBit_shiftRight]
      simp only [ge_iff_le, decide_eq_true h63, Bool.true_and]
      rw [show 63 + (t - 63) = t from by omega]; exact h
theorem nm_ne {m : Nat} (h : m ≠ 0) : nm m ≠ 0 := fun hz => h (Nat.eq_of_testBit_eq fun t => by
  rw [Nat.zero_testBit]
  cases ht : m.testBit t with
  | false => rfl
  | true => have := nm_bit ht; rw [hz] at this; simp at this)
theorem VN.rt {m : Nat} {a : AV} {b : BV} (v : VN G.om h m a b) : VN G.rt.om h (nm m) a b := by
  induction v with
  | sc hs => exact .sc hs
  | ai => exact .ai
  | sx => exact .sx
  | lsN => exact .lsN
  | lsA ha hk' hm hl hs' hp hn hr ih => exact .lsA ha hk' ⟨rt_lt.2 hm.1, nm_bit hm.2⟩ hl hs' hp hn ih
  | lsO hm hl hs1 hs' hn hr ih => exact .lsO ⟨hm.1, rt_lt.2 hm.2.1, nm_bit hm.2.2⟩ hl hs1 hs' hn ih
theorem fins_map (M : Nat) : ∀ l : List BV, finV.fins M l = l.map (finV M)
  | [] => rfl
  | v :: l => by simp only [finV.fins, fins_map M l, List.map_cons]
theorem finsO_map : ∀ l : List BV, finO.fins l = l.map finO
  | [] => rfl
  | v :: l => by simp only [finO.fins, finsO_map l, List.map_cons]
theorem finV_sc {M : Nat} {a : AV} {b : BV} (hs : scB a = some b) : finV M b = b := by cases a <;> simp [scB] at hs <;> subst hs <;> rfl
theorem finO_sc {a : AV} {b : BV} (hs : scB a = some b) : finO b = b := by cases a <;> simp [scB] at hs <;> subst hs <;> rfl
theorem VNs.wk {m M : Nat} {l : List AV} {cs : List BV} (hs : subM m M = true) (v : VNs G.om h m l cs) : VNs G.om h M l cs := VN.weaks (fun t => subM_bit hs) v
theorem sub_or_l {a b M : Nat} (h : subM (a ||| b) M = true) : subM a M = true := by
  unfold subM at h ⊢
  have h1 := Nat.eq_of_beq_eq_true h
  rw [show (a ||| M) = M from Nat.eq_of_testBit_eq fun t => by
    cases hm : a.testBit t with
    | false => rw [Nat.testBit_or, hm, Bool.false_or]
    | true => rw [Nat.testBit_or, hm, Bool.true_or, or_sub h1 (by rw [Nat.testBit_or, hm, Bool.true_or])]]
  simp
theorem sub_ne {m M : Nat} (h : subM m M = true) (hm : m ≠ 0) : M ≠ 0 := ne0_sub (fun t => subM_bit h) hm
theorem VB.fin (M : Nat) {a : AV} {b : BV} (v : VB G h a b) : VB G.rt h a (finV M b) := by
  induction v with
  | any => exact .any
  | sc hs' => rw [finV_sc hs']; exact .sc hs'
  | ai => exact .ai
  | sx => exact .sx
  | nils => exact .nils
  | ptr hp => exact .ptr hp
  | sl hp => exact .sl hp
  | sl0 => exact .sl0
  | @lsN sz own m =>
    simp only [finV]
    cases Nat.beq own 1 with
    | true => exact .any
    | false =>
      simp only [cond_false]
      cases Nat.ble own 63 with
      | true =>
        simp only [cond_true]
        cases subM (nm m ||| (bif Nat.beq own 0 then 0 else 2)) M with
        | true => exact .lsN
        | false => exact .any
      | false =>
        simp only [cond_false]
        cases subM (nm m) M with
        | true => exact .lsN
        | false => exact .any
  | @lsA a off len sz cap k es cs own m ha hk' hq hm ho hl hs' hp hr =>
    simp only [finV]
    cases h1 : Nat.beq own 1 with
    | true => exact .any
    | false =>
      simp only [cond_false]
      cases hb : Nat.ble own 63 with
      | true =>
        simp only [cond_true]
        cases hsm : subM (nm m ||| (bif Nat.beq own 0 then 0 else 2)) M with
        | false => exact .any
        | true =>
          simp only [cond_true]
          refine .lsA ha hk' (rt_lt.2 hq) (fun _ => ?_) (fun h => absurd rfl h) hl hs' hp (VNs.wk (G := G.rt) (sub_or_l hsm) (hr.imp fun _ _ _ v => v.rt))
          refine subM_bit hsm ?_
          show Nat.testBit (_ ||| _) (Eng.rt (G.om a)) = true
          rw [Nat.testBit_or, Bool.or_eq_true]
          by_cases h0 : own = 0
          · exact .inl (nm_bit (hm h0))
          · refine .inr ?_
            have e := ho h0
            rw [beq_ne h0, cond_false]
            rw [Nat.ble_eq] at hb
            have h1' : own ≠ 1 := fun hh => by rw [hh] at h1; simp at h1
            have : l1 (G.om a) = true := by simp only [l1, Bool.and_eq_true, Nat.ble_eq]; omega
            simp only [Eng.rt, this, cond_true]
            rfl
      | false =>
        simp only [cond_false]
        cases hsm : subM (nm m) M with
        | false => exact .any
        | true =>
          have hn : ¬ own ≤ 63 := fun hh => by rw [← Nat.ble_eq, hb] at hh; cases hh
          have h0 : own ≠ 0 := by omega
          have e := ho h0
          have hl1 : l1 (G.om a) = false := by
            cases hl : l1 (G.om a) with
            | false => rfl
            | true => simp only [l1, Bool.and_eq_true, Nat.ble_eq] at hl; omega
          exact .lsA ha hk' (rt_lt.2 hq) (fun h => absurd h h0) (fun _ => by show Eng.rt (G.om a) + 1 = own; simp only [Eng.rt, hl1, cond_false]; exact e) hl hs' hp (VNs.wk (G := G.rt) hsm (hr.imp fun _ _ _ v => v.rt))
  | @lsO rs sz c es m hm hl hs1 hs' hr =>
    simp only [finV, show Nat.beq 0 1 = false from rfl, show Nat.ble 0 63 = true from rfl, cond_false, beq_self, cond_true]
    cases hsm : subM (nm m ||| 0) M with
    | false => exact .any
    | true => exact .lsO ⟨hm.1, rt_lt.2 hm.2.1, subM_bit (sub_or_l hsm) (nm_bit hm.2.2)⟩ hl hs1 hs' (VNs.wk (G := G.rt) (sub_or_l hsm) (hr.imp fun _ _ _ v => v.rt))
  | @roA a b off k cs as m ha hk' hm hp hr =>
    simp only [finV]
    cases hsm : subM (nm m) M with
    | false => exact .any
    | true => exact .roA ha hk' ⟨rt_lt.2 hm.1, subM_bit hsm (nm_bit hm.2)⟩ hp (VNs.wk (G := G.rt) hsm (hr.imp fun _ _ _ v => v.rt))
  | @roO as off cs m hm hr =>
    simp only [finV]
    cases hsm : subM (nm m) M with
    | false => exact .any
    | true => exact .roO ⟨hm.1, rt_lt.2 hm.2.1, subM_bit hsm (nm_bit hm.2.2)⟩ (VNs.wk (G := G.rt) hsm (hr.imp fun _ _ _ v => v.rt))
  | @fn f as cs hn hr ih =>
    simp only [finV, fins_map]
    have : VBs G.rt h as (cs.map (finV M)) := L2.map_r (R := fun x y => VB G.rt h x (finV M y)) ⟨hn, ih⟩ fun a b hb k => k
    exact .fn this.1 this.2
  | iface hr ih => exact .iface ih
  | @agg as cs hn hr ih =>
    simp only [finV, fins_map]
    have : VBs G.rt h as (cs.map (finV M)) := L2.map_r (R := fun x y => VB G.rt h x (finV M y)) ⟨hn, ih⟩ fun a b hb k => k
    exact .agg this.1 this.2
  | @tup as cs hn hr ih =>
    simp only [finV, fins_map]
    have : VBs G.rt h as (cs.map (finV M)) := L2.map_r (R := fun x y => VB G.rt h x (finV M y)) ⟨hn, ih⟩ fun a b hb k => k
    exact .tup this.1 this.2
theorem VB.finO {a : AV} {b : BV} (v : VB G h a b) : VB G.rt h a (Eng.finO b) := by
  induction v with
  | any => exact .any
  | sc hs' => rw [finO_sc hs']; exact .sc hs'
  | ai => exact .ai
  | sx => exact .sx
  | nils => exact .nils
  | ptr hp => exact .ptr hp
  | sl hp => exact .sl hp
  | sl0 => exact .sl0
  | @lsN sz own m =>
    simp only [Eng.finO]
    cases Nat.beq own 1 <;> cases Nat.beq own 0 <;> cases Nat.ble own 63 <;> simp only [cond_true, cond_false] <;> first | exact .lsN | exact .any
  | @lsA a off len sz cap k es cs own m ha hk' hq hm ho hl hs' hp hr =>
    have hr' : VNs G.rt.om h (nm m) cs es.flatten := hr.imp fun _ _ _ v => v.rt
    simp only [Eng.finO]
    cases h1 : Nat.beq own 1 with
    | true => exact .any
    | false =>
      simp only [cond_false]
      by_cases h0 : own = 0
      · subst h0
        simp only [beq_self, cond_true]
        exact .lsA ha hk' (rt_lt.2 hq) (fun _ => nm_bit (hm rfl)) (fun h => absurd rfl h) hl hs' hp hr'
      · have e := ho h0
        rw [beq_ne h0, cond_false]
        cases hb : Nat.ble own 63 with
        | true =>
          rw [Nat.ble_eq] at hb
          have h1' : own ≠ 1 := fun hh => by rw [hh] at h1; simp at h1
          have hl1 : l1 (G.om a) = true := by simp only [l1, Bool.and_eq_true, Nat.ble_eq]; omega
          refine .lsA ha hk' (rt_lt.2 hq) (fun _ => ?_) (fun h => absurd rfl h) hl hs' hp (VN.weaks (fun t ht => by rw [Nat.testBit_or, ht, Bool.true_or]) hr')
          show Nat.testBit (_ ||| _) (Eng.rt (G.om a)) = true
          rw [Nat.testBit_or]
          simp only [Eng.rt, hl1, cond_true]
          rw [show (2 : Nat).testBit 1 = true from rfl, Bool.or_true]
        | false =>
          have hn : ¬ own ≤ 63 := fun hh => by rw [← Nat.ble_eq, hb] at hh; cases hh
          have hl1 : l1 (G.om a) = false := by
            cases hl : l1 (G.om a) with
            | false => rfl
            | true => simp only [l1, Bool.and_eq_true, Nat.ble_eq] at hl; omega
          exact .lsA ha hk' (rt_lt.2 hq) (fun h => absurd h h0) (fun _ => by show Eng.rt (G.om a) + 1 = own; simp only [Eng.rt, hl1, cond_false]; exact e) hl hs' hp hr'
  | @lsO rs sz c es m hm hl hs1 hs' hr => exact .lsO ⟨hm.1, rt_lt.2 hm.2.1, nm_bit hm.2.2⟩ hl hs1 hs' (hr.imp fun _ _ _ v => v.rt)
  | @roA a b off k cs as m ha hk' hm hp hr => exact .roA ha hk' ⟨rt_lt.2 hm.1, nm_bit hm.2⟩ hp (hr.imp fun _ _ _ v => v.rt)
  | @roO as off cs m hm hr => exact .roO ⟨hm.1, rt_lt.2 hm.2.1, nm_bit hm.2.2⟩ (hr.imp fun _ _ _ v => v.rt)
  | @fn f as cs hn hr ih =>
    simp only [Eng.finO, finsO_map]
    have : VBs G.rt h as (cs.map Eng.finO) := L2.map_r (R := fun x y => VB G.rt h x (Eng.finO y)) ⟨hn, ih⟩ fun a b hb k => k
    exact .fn this.1 this.2
  | iface hr ih => exact .iface ih
  | @agg as cs hn hr ih =>
    simp only [Eng.finO, finsO_map]
    have : VBs G.rt h as (cs.map Eng.finO) := L2.map_r (R := fun x y => VB G.rt h x (Eng.finO y)) ⟨hn, ih⟩ fun a b hb k => k
    exact .agg this.1 this.2
  | @tup as cs hn hr ih =>
    simp only [Eng.finO, finsO_map]
    have : VBs G.rt h as (cs.map Eng.finO) := L2.map_r (R := fun x y => VB G.rt h x (Eng.finO y)) ⟨hn, ih⟩ fun a b hb k => k
    exact .tup this.1 this.2
theorem VBs.finO {l : List AV} {m : List BV} (v : VBs G h l m) : VBs G.rt h l (Eng.finO.fins m) := by
  rw [finsO_map]; exact v.map_r fun a b _ k => k.finO
theorem finsO_len : ∀ l : List BV, (Eng.finO.fins l).length = l.length
  | [] => rfl
  | v :: l => by simp only [Eng.finO.fins, List.length_cons, finsO_len l]
theorem ObR.finO {t : Nat} {c : List BV} (v : ObR G h t c) (hl : l1 (tg t) = false) : ObR G.rt h t (Eng.finO.fins c) := by
  rcases v with ⟨z1, rfl, z3⟩ | ⟨a, b, k, ca, q1, q2, q3, q4, q5, q6⟩
  · exact .inl ⟨z1, rfl, z3⟩
  refine .inr ⟨a, b, k, ca, q1, q2, q3, ?_, by rw [finsO_len]; exact q5, q6.finO⟩
  show Eng.rt (G.om a) = _
  rw [q4]; simp only [Eng.rt, hl, cond_false]
theorem finOs_mem : ∀ {l : LO} {p : Nat × List BV}, p ∈ finOs l → ∃ c, ((p.1, c) ∈ l ∧ l1 (tg p.1) = false) ∧ p.2 = Eng.finO.fins c
  | [], p, h => by simp [finOs] at h
  | (t, c) :: l, p, h => by
    simp only [finOs] at h
    have rec' : p ∈ finOs l → ∃ c', ((p.1, c') ∈ (t, c) :: l ∧ l1 (tg p.1) = false) ∧ p.2 = Eng.finO.fins c' := fun h => by
      obtain ⟨c', ⟨q1, q3⟩, q2⟩ := finOs_mem h
      exact ⟨c', ⟨List.mem_cons_of_mem _ q1, q3⟩, q2⟩
    cases hl : l1 (tg t) with
    | true => rw [hl] at h; exact rec' h
    | false =>
      rw [hl] at h
      rcases List.mem_cons.1 h with rfl | h
      · exact ⟨c, ⟨by simp, hl⟩, rfl⟩
      · exact rec' h
theorem Cg.rt {bs : Base} (c : Cg bs G h) : Cg bs G.rt h := ⟨c.ok, ⟨c.go.n, c.go.get, fun a ha => by
  have e := c.go.om a ha
  have hl := c.ok a ha
  show Eng.rt (G.om a) = _
  rw [e]
  have : l1 (bs.om a) = false := by
    unfold loc at hl
    simp only [Bool.or_eq_false_iff] at hl
    exact hl.1
  simp only [Eng.rt, this, cond_false]⟩, c.pi, c.old⟩
end

/-! #### Functions -/
def initB : Nat → List BV → SL
  | _, [] => []
  | n, a :: l => (n, .v a) :: initB (n + 1) l
theorem initB_lk : ∀ (l : List BV) (n t : Nat) (y : BSlot), lkp (initB n l) t = some y → ∃ i a, t = n + i ∧ l[i]? = some a ∧ y = .v a
  | [], n, t, y, h => by simp [initB, lkp] at h
  | a :: l, n, t, y, h => by
    simp only [initB, lkp] at h
    cases he : Nat.beq n t with
    | true =>
      have := Nat.eq_of_beq_eq_true he
      subst this
      simp only [he, cond_true, Option.some.injEq] at h
      exact ⟨0, a, rfl, rfl, h.symm⟩
    | false =>
      simp only [he, cond_false] at h
      obtain ⟨i, b, h1, h2, h3⟩ := initB_lk l (n + 1) t y h
      exact ⟨i + 1, b, by omega, by simpa using h2, h3⟩
/-- What the results are. -/
def resB (T : Nat → Option TI) (s : BS) : List ResultVar → Option (List BV)
  | [] => some []
  | .tmp t :: r => match s.slot (.tmp t) with
    | some (.v x) => (match resB T s r with | some l => some (x :: l) | none => none)
    | _ => none
  | .cell a t :: r => match T t, s.slot (.tmp a) with
    | some ti, some x => (match s.rdB x ti.size with
      | some cs => (match mkB ti cs with
        | some v => (match resB T s r with | some l => some (v :: l) | none => none)
        | none => none)
      | none => none)
    | _, _ => none
def oneB : List BV → BV
  | [x] => x
  | l => .tup l
section
variable {T : Nat → Option TI} {call : CallF} {h : FH} {N : Nat} {bs : Base} {sl sl' : SL} {lo lo' ob ob' df df' : LO} {F : Nat → Option Func} {H : Nat → FH}
theorem resB_sound {G : Gh} {st : St} {df : LO} (hst : RepBS G N ⟨sl, [], lo, ob, df⟩ st) : ∀ {rs : List ResultVar} {l : List BV}, resB T ⟨sl, [], lo, ob, df⟩ rs = some l → ∃ m, resV T st rs = some m ∧ VBs G st.hp m l
  | [], l, hl => by simp only [resB, Option.some.injEq] at hl; subst hl; exact ⟨[], rfl, .nil⟩
  | .tmp t :: rs, l, hl => by
    simp only [resB] at hl
    split at hl
    · rename_i x hx
      simp only [BS.slot, lkp] at hx
      obtain ⟨y, h1, h2⟩ := hst.sl t _ hx
      cases h2 with
      | v hv =>
        split at hl
        · rename_i l' hl'
          simp only [Option.some.injEq] at hl; subst hl
          obtain ⟨m, m1, m2⟩ := resB_sound hst hl'
          exact ⟨_, by simp only [resV, h1, m1, Option.map_some], .cons hv m2⟩
        · cases hl
    · cases hl
  | .cell a t :: rs, l, hl => by
    simp only [resB] at hl
    split at hl
    · rename_i ti x hT hx
      simp only [BS.slot, lkp] at hx
      obtain ⟨y, h1, h2⟩ := hst.sl a _ hx
      split at hl
      · rename_i cs hcs
        have hr : RepB G ⟨sl, [], lo, ob, df⟩ ⟨st.sl, [], st.lo, st.hp, st.df⟩ := ⟨.nil, hst.sl, hst.lo, hst.ob, hst.df⟩
        obtain ⟨ca, c1, c2⟩ := hr.rd h2 hcs
        split at hl
        · rename_i v hv
          obtain ⟨va, v1, v2⟩ := mkB_sound c2 hv
          split at hl
          · rename_i l' hl'
            simp only [Option.some.injEq] at hl; subst hl
            obtain ⟨m, m1, m2⟩ := resB_sound hst hl'
            exact ⟨_, by simp only [resV, hT, h1, c1, v1, m1, Option.map_some], .cons v2 m2⟩
          · cases hl
        · cases hl
      · cases hl
    · cases hl
/-- How a function ends. -/
def EndsB (T : Nat → Option TI) (F : Nat → Option Func) (H : Nat → FH) (N : Nat) (fn : Func) (bs : Base) (Φ : RB → LO → Prop) : QB := fun x sl lo ob df =>
  ∀ G st e, RepBS G N ⟨sl, [], lo, ob, df⟩ st → Cg bs G st.hp → BXr G st.hp e x → ∃ cm, endCM e = some cm ∧ ∃ rA hp', leave T (callDL T F H (evalL T F H)) fn st st.df cm st.hp = some (rA, hp') ∧ ∃ G' r ob', Cg bs G' hp' ∧ RBr G' hp' rA r ∧ (∀ p ∈ ob', ObR G' hp' p.1 p.2) ∧ Φ r ob'
theorem ansB_of {f : Nat} {fn : Func} {c : Code} {args : List BV} {ob : LO} {P : Nat → Bool} {Φ : RB → LO → Prop} (hf : F f = some fn) (hl : Nat.beq args.length (arity fn) = true) (hb : fn.body = some c) (hN : Nat.ble args.length fn.ntmps = true)
    (hx : ∀ om pi hp, XB T (evalL T F H) (H f) fn.ntmps ⟨P, om, pi, hp⟩ c (initB 0 args) [] ob [] (EndsB T F H fn.ntmps fn ⟨P, om, pi, hp⟩ Φ)) : CallB (evalL T F H) P f args ob Φ := by
  intro G hp as hv hob hloc hold
  have hst : RepBS G fn.ntmps ⟨initB 0 args, [], [], ob, []⟩ (st0 fn as hp) := by
    refine ⟨?_, fun t y hy => ?_, fun u c hc => by simp [lkp] at hc, fun t c hc => hob _ (lkp_mem hc), .nil⟩
    · simp only [st0, List.length_append, List.length_map, List.length_replicate]
      omega
    · obtain ⟨i, a, rfl, h2, rfl⟩ := initB_lk args 0 t y hy
      obtain ⟨x, x1, x2⟩ := hv.get h2
      refine ⟨.v x, ?_, .v x2⟩
      simp only [st0, Nat.zero_add]
      rw [List.getElem?_append_left (by simp; exact (List.getElem?_eq_some_iff.1 x1).1)]
      simp [x1]
  have hcg : Cg ⟨P, G.om, G.pi, hp⟩ G hp := ⟨hloc, .refl _ _ _, fun _ _ => rfl, hold⟩
  obtain ⟨e, st', h1, G1, x, sl', lo', ob', df', h2, h3, h4, h5⟩ := hx G.om G.pi hp G (st0 fn as hp) hst hcg
  obtain ⟨cm, he, rA, hp', hv', G', r, ob'', k1, k2, k3, k4⟩ := h5 G1 st' e h2 h3 h4
  exact ⟨rA, hp', evalL_of hf (by rw [hv.1]; exact hl) hb h1 he hv', G', r, ob'', k1.go, k1.pi, k2, k3, k4⟩
def endBX : BX → Bool
  | .normal | .ret => true
  | _ => false
/-- What of the objects is told. -/
def Has (l ob : LO) : Prop := ∀ p ∈ l, lkp ob p.1 = some p.2
theorem Has.nil {ob : LO} : Has [] ob := fun p hp => by simp at hp
theorem Has.cons {t : Nat} {c : List BV} {l ob : LO} (h : lkp ob t = some c) (k : Has l ob) : Has ((t, c) :: l) ob := fun p hp => by
  rcases List.mem_cons.1 hp with rfl | hp
  · exact h
  · exact k p hp
theorem ends_retB {fn : Func} {Φ : RB → LO → Prop} {x : BX} {l : List BV} {obr : LO} (M : Nat) (he : endBX x = true) (hr : resB T ⟨sl, [], lo, ob, []⟩ fn.results.toList = some l) (ho : Has obr ob) (hΦ : Φ (.ret (finV M (oneB l))) (finOs obr)) : EndsB T F H N fn bs Φ x sl lo ob [] := by
  intro G st e hst hc hx
  have e2 : st.df = [] := hst.df.nil_r
  obtain ⟨m, m1, m2⟩ := resB_sound hst hr
  have hcm : endCM e = some .ret := by cases hx <;> first | rfl | cases he
  refine ⟨.ret, hcm, .ret (oneR m), st.hp, ?_, G.rt, .ret (finV M (oneB l)), finOs obr, hc.rt, ?_, fun p hp => ?_, hΦ⟩
  · rw [e2]
    have : resV T ⟨st.sl, st.lo, st.hp, st.df⟩ fn.results.toList = some m := m1
    simp only [leave, this]
    cases m with
    | nil => rfl
    | cons x l => cases l <;> rfl
  · show VB G.rt st.hp (oneR m) _
    refine VB.fin M ?_
    match m, l, m2 with
    | [], [], _ => exact .tup rfl fun i x y hx => by simp at hx
    | [a], [b], h2 => exact (h2.2 0 a b rfl rfl)
    | a :: a' :: m, b :: b' :: l, h2 => exact .tup h2.1 h2.2
    | [], b :: l, h2 => have := h2.1; simp at this
    | [a], [], h2 => have := h2.1; simp at this
    | [a], b :: b' :: l, h2 => have := h2.1; simp at this
    | a :: a' :: m, [], h2 => have := h2.1; simp at this
    | a :: a' :: m, [b], h2 => have := h2.1; simp at this
  · obtain ⟨c, ⟨q1, q3⟩, q2⟩ := finOs_mem hp
    rw [q2]
    exact (hst.ob _ _ (ho _ q1)).finO q3
theorem ends_panB {fn : Func} {Φ : RB → LO → Prop} {v : BV} {obr : LO} (M : Nat) (ho : Has obr ob) (hΦ : Φ (.pan (finV M v)) (finOs obr)) : EndsB T F H N fn bs Φ (.panic v) sl lo ob [] := by
  intro G st e hst hc hx
  have e2 : st.df = [] := hst.df.nil_r
  cases hx with
  | @panic a _ hv =>
    refine ⟨.pan a, rfl, .panic a, st.hp, by rw [e2]; simp only [leave], G.rt, .pan (finV M v), finOs obr, hc.rt, hv.fin M, fun p hp => ?_, hΦ⟩
    obtain ⟨c, ⟨q1, q3⟩, q2⟩ := finOs_mem hp
    rw [q2]
    exact (hst.ob _ _ (ho _ q1)).finO q3
end
end Go.Eng

/- ENGINE 47: rows that are told by lists. -/
set_option linter.unusedVariables false
set_option linter.unusedSimpArgs false
namespace Go.Eng
open Go

/-! #### The words of the programs that are printed -/
def wadd (a b : Int) : Int := fwrap .i64 (a + b)
def wsub (a b : Int) : Int := fwrap .i64 (a - b)
def wmul (a b : Int) : Int := fwrap .i64 (a * b)
def len {α : Type} (l : List α) : Int := (l.length : Int)
def idx {α : Type} (l : List α) (i : Int) : Option α := if 0 ≤ i then l[i.toNat]? else none
def sli {α : Type} (l : List α) (lo hi : Int) : Option (List α) := if 0 ≤ lo ∧ lo ≤ hi ∧ hi ≤ (l.length : Int) then some ((l.take hi.toNat).drop lo.toNat) else none
def app {α : Type} (l m : List α) : Option (List α) := if l.length + m.length ≤ 68719476736 then some (l ++ m) else none

section
variable {T : Nat → Option TI} {ZB : Nat → Option (List BV)} {s : BS} {α : Type} {cells : α → List BV} {l : List α} {sz own m : Nat}
theorem pLenB {x : Operand} {t : Nat} {ti : TI} {args : Array Operand} {ts : Array Nat} {e sz' bytes : Nat} {ez : List AV} (ha : args.toList = [x]) (ht : ts.toList = [t]) (hx : s.val x = some (.ls (l.map cells) sz own m)) (hT : T t = some ti) (hk : ti.k = .sl e sz' bytes ez) : POpB T s (.call ⟨.builtin .len, args, ts⟩) (.v (.int .i64 (len l))) := by
  refine ropB_sound (ZB := fun _ => none) (ty := 0) ?_
  simp only [ropB, ha, ht, hx, lenB, hT, hk, List.length_map, len]
theorem pLenS {x : Operand} {t : Nat} {ti : TI} {args : Array Operand} {ts : Array Nat} {l : List UInt8} (ha : args.toList = [x]) (ht : ts.toList = [t]) (hx : s.val x = some (.str l)) (hT : T t = some ti) (hk : ti.k = .str) : POpB T s (.call ⟨.builtin .len, args, ts⟩) (.v (.int .i64 (len l))) := by
  refine ropB_sound (ZB := fun _ => none) (ty := 0) ?_
  simp only [ropB, ha, ht, hx, lenB, hT, hk, len]
theorem pIdxB {x i : Operand} {t : Nat} {ti : TI} {k : IntKind} {n : Int} {e bytes : Nat} {ez : List AV} {a : α} (hx : s.slot x = some (.v (.ls (l.map cells) sz own m))) (hi : s.val i = some (.int k n)) (hT : T t = some ti) (hk : ti.k = .sl e sz bytes ez) (hg : idx l n = some a) : POpB T s (.indexAddr t x i) (.v (.ro (cells a) 0 (tagm own m))) := by
  refine ropB_sound (ZB := fun _ => none) (ty := 0) ?_
  unfold idx at hg
  split at hg
  · rename_i h0
    simp only [ropB, hx, hi, idxB, hT, hk, if_pos h0, List.getElem?_map, hg, Option.map_some, beq_self, cond_true]
  · cases hg
theorem pSliceB {x : Operand} {lo hi : Option Operand} {t : Nat} {ti : TI} {u w : Option BV} {a b : Int} {e bytes : Nat} {ez : List AV} {l' : List α} (hx : s.val x = some (.ls (l.map cells) sz own m)) (hlo : s.opt lo = some u) (hhi : s.opt hi = some w) (hT : T t = some ti) (hk : ti.k = .sl e sz bytes ez)
    (hu : (u = none ∧ a = 0) ∨ ∃ k, u = some (.int k a)) (hw : (w = none ∧ b = len l) ∨ ∃ k, w = some (.int k b)) (hg : sli l a b = some l') : POpB T s (.slice t x lo hi none) (.v (.ls (l'.map cells) sz own m)) := by
  refine ropB_sound (ZB := fun _ => none) (ty := 0) ?_
  unfold sli at hg
  split at hg
  · rename_i h0
    obtain ⟨h1, h2, h3⟩ := h0
    simp only [Option.some.injEq] at hg
    have e1 : boundB w l.length l.length = some b.toNat := by
      rcases hw with ⟨rfl, rfl⟩ | ⟨k, rfl⟩
      · simp [boundB, len]
      · simp only [boundB]; rw [if_pos ⟨by omega, h3⟩]
    have e2 : boundB u 0 b.toNat = some a.toNat := by
      rcases hu with ⟨rfl, rfl⟩ | ⟨k, rfl⟩
      · simp [boundB]
      · simp only [boundB]; rw [if_pos ⟨h1, by omega⟩]
    simp only [ropB, hx, hlo, hhi, sliceB, hT, hk, List.length_map, e1, e2, beq_self, cond_true]
    rw [← hg, List.map_drop, List.map_take]
  · cases hg
end
section
variable {T : Nat → Option TI} {ZB : Nat → Option (List BV)} {call : CallF} {bx : List Nat} {ops : List Oper} {bs : Base} {pk : List Nat} {l : List (Oper × List Nat)} {o : Oper} {ws : List Nat} {sl env : SL} {lo ob df : LO} {Q : QN} {Qp : QP} {d : Nat} {α : Type} {cells : α → List BV} {x y z : List α}
theorem vns_or_l {a b : Nat} {om : Nat → Nat} {h : Hp} {l : List AV} {cs : List BV} (v : VNs om h a l cs) : VNs om h (a ||| b) l cs := VN.weaks (fun t ht => by rw [Nat.testBit_or, ht, Bool.true_or]) v
theorem vns_or_r {a b : Nat} {om : Nat → Nat} {h : Hp} {l : List AV} {cs : List BV} (v : VNs om h b l cs) : VNs om h (a ||| b) l cs := VN.weaks (fun t ht => by rw [Nat.testBit_or, ht, Bool.or_true]) v
/-- Single cells that lead to no memory. -/
def isScB : BV → Bool
  | .bool _ | .int _ _ | .str _ | .nilp | .nilfn | .nilif => true
  | _ => false
theorem vns_sc {E E' : Nat} {om : Nat → Nat} {h : Hp} {l : List AV} {x : List α} (hs : ∀ a, (cells a).all isScB = true) (v : VNs om h E l (x.map cells).flatten) : VNs om h E' l (x.map cells).flatten :=
  v.imp fun a b hb k => by
    simp only [List.mem_flatten, List.mem_map] at hb
    obtain ⟨r, ⟨z, _, rfl⟩, hb⟩ := hb
    have := hs z
    rw [List.all_eq_true] at this
    have h1 := this b hb
    cases k with
    | sc hs => exact .sc hs
    | ai => cases h1
    | sx => cases h1
    | lsN => cases h1
    | lsA => cases h1
    | lsO => cases h1
/-- 'append' to what is empty and has no memory, told by lists. -/
theorem xb_app0 {args : Array Operand} {ts : Array Nat} {t t2 : Nat} {ti : TI} {e sz bytes own2 m2 : Nat} {ez : List AV} (k : Nat) (hw : wantB ops env o = some true) (ho : o.op = .call ⟨.builtin .append, args, ts⟩) (hd : o.dst = some d) (hl : BS.vals ZB ⟨sl, env, lo, ob, df⟩ args.toList ts.toList = some [.ls [] sz 0 0, .ls (y.map cells) sz own2 m2]) (hts : ts.toList = [t, t2]) (hT : T t = some ti)
    (hq : isSeq T t2 = true) (hkk : ti.k = .sl e sz bytes ez) (hez : Nat.beq ez.length sz = true) (hlen : app [] y = some z) (hby : Nat.ble bytes 2000 = true) (hk0 : Nat.ble k 999 = true) (hs : pkSs ops ⟨sl, env, lo, ob, df⟩ (fun _ => false) pk = true) (hn : pkNs ops o.dst pk = true) (hk : subN ws pk = true)
    (h : XRB T call bx ops bs pk l ⟨sl, (d, .v (.ls (z.map cells) sz (k + 1) m2)) :: env, lo, ob, df⟩ Q Qp) : XRB T call bx ops bs pk ((o, ws) :: l) ⟨sl, env, lo, ob, df⟩ Q Qp := by
  unfold app at hlen
  split at hlen
  · rename_i hle
    simp only [List.nil_append, Option.some.injEq] at hlen
    subst hlen
    exact xb_append0 k (fun _ _ _ v => v) hw ho hd hl hts hT hq hkk hez (by simpa using hle) hby hk0 hs hn hk h
  · cases hlen
theorem xb_app0S {args : Array Operand} {ts : Array Nat} {t t2 : Nat} {ti : TI} {e sz bytes own2 m2 : Nat} {ez : List AV} (k : Nat) (hsc : ∀ a, (cells a).all isScB = true) (hw : wantB ops env o = some true) (ho : o.op = .call ⟨.builtin .append, args, ts⟩) (hd : o.dst = some d) (hl : BS.vals ZB ⟨sl, env, lo, ob, df⟩ args.toList ts.toList = some [.ls [] sz 0 0, .ls (y.map cells) sz own2 m2]) (hts : ts.toList = [t, t2]) (hT : T t = some ti)
    (hq : isSeq T t2 = true) (hkk : ti.k = .sl e sz bytes ez) (hez : Nat.beq ez.length sz = true) (hlen : app [] y = some z) (hby : Nat.ble bytes 2000 = true) (hk0 : Nat.ble k 999 = true) (hs : pkSs ops ⟨sl, env, lo, ob, df⟩ (fun _ => false) pk = true) (hn : pkNs ops o.dst pk = true) (hk : subN ws pk = true)
    (h : XRB T call bx ops bs pk l ⟨sl, (d, .v (.ls (z.map cells) sz (k + 1) 0)) :: env, lo, ob, df⟩ Q Qp) : XRB T call bx ops bs pk ((o, ws) :: l) ⟨sl, env, lo, ob, df⟩ Q Qp := by
  unfold app at hlen
  split at hlen
  · rename_i hle
    simp only [List.nil_append, Option.some.injEq] at hlen
    subst hlen
    exact xb_append0 k (fun _ _ _ v => vns_sc hsc v) hw ho hd hl hts hT hq hkk hez (by simpa using hle) hby hk0 hs hn hk h
  · cases hlen
/-- 'append' to a slice of one's own, told by lists. -/
theorem xb_app {args : Array Operand} {ts : Array Nat} {t t2 : Nat} {ti : TI} {e sz bytes m own2 m2 : Nat} {ez : List AV} (k m' : Nat) (hw : wantB ops env o = some true) (ho : o.op = .call ⟨.builtin .append, args, ts⟩) (hd : o.dst = some d) (hl : BS.vals ZB ⟨sl, env, lo, ob, df⟩ args.toList ts.toList = some [.ls (x.map cells) sz (k + 1) m, .ls (y.map cells) sz own2 m2]) (hts : ts.toList = [t, t2]) (hT : T t = some ti)
    (hq : isSeq T t2 = true) (hkk : ti.k = .sl e sz bytes ez) (hez : Nat.beq ez.length sz = true) (hlen : app x y = some z) (hby : Nat.ble bytes 2000 = true) (hk0 : Nat.ble k 999 = true) (hm1 : m ||| m2 = m') (hmk : Nat.beq (m' &&& 2 ^ k) 0 = true) (hP : loc k = true ∨ bs.P k = true) (hs : pkSs ops ⟨sl, env, lo, ob, df⟩ (fun t => Nat.beq t (128 + k)) pk = true) (hn : pkNs ops o.dst pk = true) (hk : subN ws pk = true)
    (h : XRB T call bx ops bs pk l ⟨frS (2 ^ k) 0 sl, (d, .v (.ls (z.map cells) sz (k + 1) m')) :: frS (2 ^ k) 0 env, frL (2 ^ k) 0 lo, frO (2 ^ k) 0 (fun t => Nat.beq t (128 + k)) ob, frL (2 ^ k) 0 df⟩ Q Qp) : XRB T call bx ops bs pk ((o, ws) :: l) ⟨sl, env, lo, ob, df⟩ Q Qp := by
  unfold app at hlen
  split at hlen
  · rename_i hle
    simp only [Option.some.injEq] at hlen
    subst hlen
    subst hm1
    rw [List.map_append] at h
    exact xb_append k _ (fun _ _ _ v => vns_or_l v) (fun _ _ _ v => vns_or_r v) hw ho hd hl hts hT hq hkk hez (by simpa using hle) hby hk0 hmk hP hs hn hk h
  · cases hlen
theorem xb_appS {args : Array Operand} {ts : Array Nat} {t t2 : Nat} {ti : TI} {e sz bytes m own2 m2 : Nat} {ez : List AV} (k : Nat) (hsc : ∀ a, (cells a).all isScB = true) (hw : wantB ops env o = some true) (ho : o.op = .call ⟨.builtin .append, args, ts⟩) (hd : o.dst = some d) (hl : BS.vals ZB ⟨sl, env, lo, ob, df⟩ args.toList ts.toList = some [.ls (x.map cells) sz (k + 1) m, .ls (y.map cells) sz own2 m2]) (hts : ts.toList = [t, t2]) (hT : T t = some ti)
    (hq : isSeq T t2 = true) (hkk : ti.k = .sl e sz bytes ez) (hez : Nat.beq ez.length sz = true) (hlen : app x y = some z) (hby : Nat.ble bytes 2000 = true) (hk0 : Nat.ble k 999 = true) (hP : loc k = true ∨ bs.P k = true) (hs : pkSs ops ⟨sl, env, lo, ob, df⟩ (fun t => Nat.beq t (128 + k)) pk = true) (hn : pkNs ops o.dst pk = true) (hk : subN ws pk = true)
    (h : XRB T call bx ops bs pk l ⟨frS (2 ^ k) 0 sl, (d, .v (.ls (z.map cells) sz (k + 1) 0)) :: frS (2 ^ k) 0 env, frL (2 ^ k) 0 lo, frO (2 ^ k) 0 (fun t => Nat.beq t (128 + k)) ob, frL (2 ^ k) 0 df⟩ Q Qp) : XRB T call bx ops bs pk ((o, ws) :: l) ⟨sl, env, lo, ob, df⟩ Q Qp := by
  unfold app at hlen
  split at hlen
  · rename_i hle
    simp only [Option.some.injEq] at hlen
    subst hlen
    rw [List.map_append] at h
    exact xb_append k 0 (fun _ _ _ v => vns_sc hsc v) (fun _ _ _ v => vns_sc hsc v) hw ho hd hl hts hT hq hkk hez (by simpa using hle) hby hk0 (by simp) hP hs hn hk h
  · cases hlen
end
/-! #### Words of the printed programs, and what their answers say -/
def jn {α β : Type} (K : α) (B : α → β) : β := B K
theorem jnE {α β : Type} {K : α} {B : α → β} {y : β} (h : jn K B = y) : ∃ J, J = K ∧ B J = y := ⟨K, rfl, h⟩
theorem bnd {α β : Type} {x : Option α} {f : α → Option β} {y : β} (h : x.bind f = some y) : ∃ a, x = some a ∧ f a = some y := by
  cases x with
  | none => cases h
  | some a => exact ⟨a, rfl, h⟩
theorem condT {α : Type} {p : Bool} {a b y : α} (h : (bif p then a else b) = y) (hp : p = true) : a = y := by subst hp; exact h
theorem condF {α : Type} {p : Bool} {a b y : α} (h : (bif p then a else b) = y) (hp : p = false) : b = y := by subst hp; exact h
def fuel : Nat := 4611686018427387904
def lp {σ τ β : Type} (f : σ → Option (σ ⊕ (τ ⊕ β))) (s : σ) (K : τ → Option β) : Option β := (itN f fuel s).bind fun r => match r with | .inl v => K v | .inr z => some z
theorem lpE {σ τ β : Type} {f : σ → Option (σ ⊕ (τ ⊕ β))} {s : σ} {K : τ → Option β} {y : β} (h : lp f s K = some y) : ∃ r, itN f fuel s = some r ∧ (match r with | .inl v => K v = some y | .inr z => z = y) := by
  obtain ⟨r, h1, h2⟩ := bnd h
  refine ⟨r, h1, ?_⟩
  cases r with
  | inl v => exact h2
  | inr z => simpa using h2

/-- A list, written out. -/
inductive NFB : SL → SL → Prop
  | nil {l} (h : l = []) : NFB l []
  | v {l n a t t'} (h : l = (n, .v a) :: t) (k : NFB t t') : NFB l ((n, .v a) :: t')
  | lr {l n u o t t'} (h : l = (n, .lr u o) :: t) (k : NFB t t') : NFB l ((n, .lr u o) :: t')
  | no {l n t t'} (h : l = (n, .none) :: t) (k : NFB t t') : NFB l ((n, .none) :: t')
theorem NFB.eq {l l' : SL} (h : NFB l l') : l = l' := by
  induction h with
  | nil h => exact h
  | v h k ih => rw [h, ih]
  | lr h k ih => rw [h, ih]
  | no h k ih => rw [h, ih]
section
variable {T : Nat → Option TI} {call : CallF} {h : FH} {N : Nat} {bs : Base} {sl sl' : SL} {lo ob df : LO} {Q : QB} {c : Code}
theorem y_loopR {σ β : Type} {body : σ → Option (σ ⊕ β)} {n : Nat} {s0 : σ} {r : β} (f : σ → SL) (g o : σ → LO) (hit : itN body n s0 = some r) (h1 : SubB (f s0) sl) (h2 : SubB (g s0) lo) (h3 : SubB (o s0) ob)
    (hb : ∀ s w, body s = some w → XB T call h N bs c (f s) (g s) (o s) df (RoundB f g o df w (fun b x sl lo ob df => b = r → Q x sl lo ob df))) : XB T call h N bs (.loop c) sl lo ob df Q :=
  y_loop f g o (fun b x sl lo ob df => b = r → Q x sl lo ob df) hit h1 h2 h3 hb fun _ _ _ _ _ hh => hh rfl
/-- The state, written out. -/
theorem y_nf (hx : XB T call h N bs c sl' lo ob df Q) (hn : NFB sl sl' := by repeat (first | exact NFB.nil rfl | apply NFB.v rfl | apply NFB.lr rfl | apply NFB.no rfl)) : XB T call h N bs c sl lo ob df Q := by rw [hn.eq]; exact hx
end
/-- Single cells. -/
def ci (n : Int) : List BV := [.int .i64 n]
def cu (n : Int) : List BV := [.int .u8 n]
def cs (s : List UInt8) : List BV := [.str s]
def cb (b : Bool) : List BV := [.bool b]
end Go.Eng

/- ENGINE 48: values seen with less known of them; plain calls. -/
set_option linter.unusedVariables false
set_option linter.unusedSimpArgs false
namespace Go.Eng
open Go

/-- Less is known of what lies in rows: not which number, which text. -/
inductive WkN : BV → BV → Prop
  | refl {v} : WkN v v
  | ai {k n} : WkN (.int k n) (.ai k)
  | sx {s} : WkN (.str s) .sx
  | ls {es es' sz own m} (h1 : es.length = es'.length) (h2 : ∀ sz, (∀ r ∈ es, r.length = sz) → ∀ r ∈ es', r.length = sz) (h3 : es.flatten.length = es'.flatten.length) (h4 : ∀ (i : Nat) x y, es.flatten[i]? = some x → es'.flatten[i]? = some y → WkN x y) : WkN (.ls es sz own m) (.ls es' sz own m)
theorem flat_l2 {α β : Type} {R : α → β → Prop} : ∀ {es : List (List α)} {es' : List (List β)}, L2 (L2 R) es es' → L2 R es.flatten es'.flatten
  | [], es', h => by rw [h.nil_l]; exact .nil
  | r :: es, es', h => by
    cases es' with
    | nil => have := h.1; simp at this
    | cons r' es' =>
      have h1 := h.2 0 r r' rfl rfl
      have h2 : L2 (L2 R) es es' := ⟨by have := h.1; simpa using this, fun i a b ha hb => h.2 (i + 1) a b (by simpa using ha) (by simpa using hb)⟩
      rw [List.flatten_cons, List.flatten_cons]
      exact h1.append (flat_l2 h2)
theorem WkN.rows {α : Type} {r r' : α → List BV} {l : List α} {sz own m : Nat} (h : ∀ x, L2 WkN (r x) (r' x)) : WkN (.ls (l.map r) sz own m) (.ls (l.map r') sz own m) := by
  have hl : L2 (L2 WkN) (l.map r) (l.map r') := ⟨by simp, fun i a b ha hb => by
    rw [List.getElem?_map, Option.map_eq_some_iff] at ha hb
    obtain ⟨x, hx, rfl⟩ := ha
    obtain ⟨y, hy, rfl⟩ := hb
    rw [hx] at hy; cases hy
    exact h x⟩
  have hf := flat_l2 hl
  refine .ls hl.1 (fun z hz q hq => ?_) hf.1 hf.2
  obtain ⟨x, hx, rfl⟩ := List.mem_map.1 hq
  rw [← (h x).1]
  exact hz _ (List.mem_map.2 ⟨x, hx, rfl⟩)
inductive Wk : BV → BV → Prop
  | n {a b} (h : WkN a b) : Wk a b
  | refl {v} : Wk v v
  | nil {sz own m} : Wk (.ls [] sz 0 0) (.ls [] sz own m)
  | mask {es sz own m m'} (h : subM m m' = true) : Wk (.ls es sz own m) (.ls es sz own m')
  | rel {es sz own m m'} (h : subM (tagm own m) m' = true) : Wk (.ls es sz own m) (.ls es sz 0 m')
  | any {v} : Wk v .any
  | trans {a b c} (h : Wk a b) (k : Wk b c) : Wk a c
inductive WkC : List BV → List BV → Prop
  | nil : WkC [] []
  | cons {a b l m} (h : Wk a b) (k : WkC l m) : WkC (a :: l) (b :: m)
inductive WkS : BSlot → BSlot → Prop
  | refl {s} : WkS s s
  | v {a b} (h : Wk a b) : WkS (.v a) (.v b)
  | a {cs ds} (h : WkC cs ds) : WkS (.v (.agg cs)) (.v (.agg ds))
theorem WkC.refl : ∀ {l : List BV}, WkC l l
  | [] => .nil
  | _ :: _ => .cons .refl WkC.refl
section
variable {G : Gh} {h : Hp}
theorem tagm_sub2 {own m m' : Nat} (h : subM (tagm own m) m' = true) : subM m m' = true := subM_tagm h
theorem VN.wkN {om : Nat → Nat} {E : Nat} {a : AV} {x y : BV} (v : VN om h E a x) (w : WkN x y) : VN om h E a y := by
  induction v generalizing y with
  | @sc a b hs =>
    cases w with
    | refl => exact .sc hs
    | ai => have := toA_iff.2 hs; simp only [toA, Option.some.injEq] at this; subst this; exact .ai
    | sx => have := toA_iff.2 hs; simp only [toA, Option.some.injEq] at this; subst this; exact .sx
    | ls => have := toA_iff.2 hs; simp [toA] at this
  | ai => cases w; exact .ai
  | sx => cases w; exact .sx
  | lsN =>
    cases w with
    | refl => exact .lsN
    | ls h1 => rw [List.eq_nil_of_length_eq_zero h1.symm]; exact .lsN
  | @lsA a off len sz cap k es cs ha hk hm hl hs hp hn hr ih =>
    cases w with
    | refl => exact .lsA ha hk hm hl hs hp hn hr
    | ls h1 h2 h3 h4 =>
      refine .lsA ha hk hm (h1.symm.trans hl) (h2 _ hs) hp (hn.trans h3) fun i a b hx hy => ?_
      have hi : i < es.flatten.length := by rw [h3]; exact (List.getElem?_eq_some_iff.1 hy).1
      exact ih i a _ hx (List.getElem?_eq_getElem hi) (h4 i _ b (List.getElem?_eq_getElem hi) hy)
  | @lsO rs sz c es hm hl hs1 hs hn hr ih =>
    cases w with
    | refl => exact .lsO hm hl hs1 hs hn hr
    | ls h1 h2 h3 h4 =>
      refine .lsO hm (hl.trans h1) hs1 (h2 _ hs) (hn.trans h3) fun i a b hx hy => ?_
      have hi : i < es.flatten.length := by rw [h3]; exact (List.getElem?_eq_some_iff.1 hy).1
      exact ih i a _ hx (List.getElem?_eq_getElem hi) (h4 i _ b (List.getElem?_eq_getElem hi) hy)
theorem VB.wkN {a : AV} {x y : BV} (v : VB G h a x) (w : WkN x y) : VB G h a y := by
  cases w with
  | refl => exact v
  | ai => rw [v.int]; exact .ai
  | sx => rw [v.str]; exact .sx
  | @ls es es' sz own m h1 h2 h3 h4 =>
    have rows : ∀ {cs : List AV}, VNs G.om h m cs es.flatten → VNs G.om h m cs es'.flatten := fun {cs} hr => ⟨hr.1.trans h3, fun i a b hx hy => by
      have hi : i < es.flatten.length := by rw [h3]; exact (List.getElem?_eq_some_iff.1 hy).1
      exact (hr.2 i a _ hx (List.getElem?_eq_getElem hi)).wkN (h4 i _ b (List.getElem?_eq_getElem hi) hy)⟩
    cases v with
    | sc hs => have := toA_iff.2 hs; cases this
    | lsN => rw [List.eq_nil_of_length_eq_zero h1.symm]; exact .lsN
    | lsA ha hk hq hm ho hl hs hp hr => exact .lsA ha hk hq hm ho (h1.symm.trans hl) (h2 _ hs) hp (rows hr)
    | lsO hm hl hs1 hs hr => exact .lsO hm (hl.trans h1) hs1 (h2 _ hs) (rows hr)
theorem VB.wk {a : AV} {x y : BV} (v : VB G h a x) (w : Wk x y) : VB G h a y := by
  induction w generalizing a with
  | n hw => exact v.wkN hw
  | refl => exact v
  | nil =>
    cases v with
    | sc hs => have := toA_iff.2 hs; cases this
    | lsN => exact .lsN
    | lsA ha hk hq hm ho hl hs hp hr => have := hm rfl; simp at this
    | lsO hm hl hs1 hs hr => exact hm.ne.elim
  | mask hm' =>
    cases v with
    | sc hs => have := toA_iff.2 hs; cases this
    | lsN => exact .lsN
    | lsA ha hk hq hm ho hl hs hp hr => exact .lsA ha hk hq (fun h0 => subM_bit hm' (hm h0)) ho hl hs hp (VNs.wk hm' hr)
    | lsO hm hl hs1 hs hr => exact .lsO (hm.weak fun t => subM_bit hm') hl hs1 hs (VNs.wk hm' hr)
  | rel hm' =>
    cases v with
    | sc hs => have := toA_iff.2 hs; cases this
    | lsN => exact .lsN
    | lsA ha hk hq hm ho hl hs hp hr => exact .lsA ha hk hq (fun _ => subM_bit hm' (tagm_own hm ho)) (fun h => absurd rfl h) hl hs hp (VNs.wk (subM_tagm hm') hr)
    | lsO hm hl hs1 hs hr => exact .lsO (hm.weak fun t => subM_bit (subM_tagm hm')) hl hs1 hs (VNs.wk (subM_tagm hm') hr)
  | any => exact .any
  | trans _ _ ih1 ih2 => exact ih2 (ih1 v)
theorem VBs.wk {l : List AV} {c d : List BV} (v : VBs G h l c) (w : WkC c d) : VBs G h l d := by
  induction w generalizing l with
  | nil => exact v
  | cons hw k ih =>
    obtain ⟨a, l', rfl, h1, h2⟩ := v.cons_r
    exact .cons (h1.wk hw) (ih h2)
theorem ObR.wk {t : Nat} {c d : List BV} (v : ObR G h t c) (w : WkC c d) : ObR G h t d := by
  rcases v with ⟨z1, rfl, z3⟩ | ⟨a, b, k, ca, q1, q2, q3, q4, q5, q6⟩
  · cases w; exact .inl ⟨z1, rfl, z3⟩
  have := VBs.wk q6 w
  exact .inr ⟨a, b, k, ca, q1, q2, q3, q4, by rw [← this.1, q6.1]; exact q5, this⟩
theorem SlotB.wk {x : Slot} {y z : BSlot} (v : SlotB G h x y) (w : WkS y z) : SlotB G h x z := by
  cases w with
  | refl => exact v
  | v hw => cases v with | v hv => exact .v (hv.wk hw)
  | a hw =>
    cases v with
    | v hv =>
      obtain ⟨as, rfl, h3⟩ := hv.agg_inv
      have := VBs.wk h3 hw
      exact .v (.agg this.1 this.2)
end
/-- Results, seen with less known of them. -/
inductive WkV : BV → BV → Prop
  | k {a b} (h : Wk a b) : WkV a b
  | a {cs ds} (h : WkC cs ds) : WkV (.agg cs) (.agg ds)
inductive WkL : List BV → List BV → Prop
  | nil : WkL [] []
  | cons {a b l m} (h : WkV a b) (k : WkL l m) : WkL (a :: l) (b :: m)
theorem WkL.refl : ∀ {l : List BV}, WkL l l
  | [] => .nil
  | _ :: _ => .cons (.k .refl) WkL.refl
theorem VB.wkV {G : Gh} {h : Hp} {a : AV} {x y : BV} (v : VB G h a x) (w : WkV x y) : VB G h a y := by
  cases w with
  | k hw => exact v.wk hw
  | a hw =>
    obtain ⟨as, rfl, h3⟩ := v.agg_inv
    have := VBs.wk h3 hw
    exact .agg this.1 this.2
theorem VBs.wkL {G : Gh} {h : Hp} {l : List AV} {c d : List BV} (v : VBs G h l c) (w : WkL c d) : VBs G h l d := by
  induction w generalizing l with
  | nil => exact v
  | cons hw k ih =>
    obtain ⟨a, l', rfl, h1, h2⟩ := v.cons_r
    exact .cons (h1.wkV hw) (ih h2)
theorem VBs.one {G : Gh} {h : Hp} : ∀ {m : List AV} {l : List BV}, VBs G h m l → VB G h (oneR m) (oneB l)
  | [], [], _ => .tup rfl fun i x y hx => by simp at hx
  | [a], [b], h2 => (h2.2 0 a b rfl rfl)
  | a :: a' :: m, b :: b' :: l, h2 => .tup h2.1 h2.2
  | [], b :: l, h2 => by have := h2.1; simp at this
  | [a], [], h2 => by have := h2.1; simp at this
  | [a], b :: b' :: l, h2 => by have := h2.1; simp at this
  | a :: a' :: m, [], h2 => by have := h2.1; simp at this
  | a :: a' :: m, [b], h2 => by have := h2.1; simp at this
theorem ends_retW {T : Nat → Option TI} {F : Nat → Option Func} {H : Nat → FH} {N : Nat} {bs : Base} {sl : SL} {lo ob : LO} {fn : Func} {Φ : RB → LO → Prop} {x : BX} {l l' : List BV} {obr : LO} (M : Nat) (he : endBX x = true) (hr : resB T ⟨sl, [], lo, ob, []⟩ fn.results.toList = some l) (hw : WkL l l') (ho : Has obr ob) (hΦ : Φ (.ret (finV M (oneB l'))) (finOs obr)) : EndsB T F H N fn bs Φ x sl lo ob [] := by
  intro G st e hst hc hx
  have e2 : st.df = [] := hst.df.nil_r
  obtain ⟨m, m1, m2⟩ := resB_sound hst hr
  have hcm : endCM e = some .ret := by cases hx <;> first | rfl | cases he
  refine ⟨.ret, hcm, .ret (oneR m), st.hp, ?_, G.rt, .ret (finV M (oneB l')), finOs obr, hc.rt, (VBs.one (VBs.wkL m2 hw)).fin M, fun p hp => ?_, hΦ⟩
  · rw [e2]
    have : resV T ⟨st.sl, st.lo, st.hp, st.df⟩ fn.results.toList = some m := m1
    simp only [leave, this]
    cases m with
    | nil => rfl
    | cons x l => cases l <;> rfl
  · obtain ⟨c, ⟨q1, q3⟩, q2⟩ := finOs_mem hp
    rw [q2]
    exact (hst.ob _ _ (ho _ q1)).finO q3
/-- Everything that the one names, the other names at least as well. -/
def SubW (l l' : SL) : Prop := ∀ t y, lkp l t = some y → ∃ x, lkp l' t = some x ∧ WkS x y
theorem SubW.nil {l' : SL} : SubW [] l' := fun t y h => by simp [lkp] at h
theorem SubW.cons {n : Nat} {x y : BSlot} {l l' : SL} (h : lkp l' n = some x) (w : WkS x y) (hs : SubW l l') : SubW ((n, y) :: l) l' := by
  intro t z hz
  simp only [lkp] at hz
  cases hn : Nat.beq n t with
  | true =>
    have := Nat.eq_of_beq_eq_true hn
    subst this
    simp only [hn, cond_true, Option.some.injEq] at hz
    subst hz; exact ⟨x, h, w⟩
  | false => simp only [hn, cond_false] at hz; exact hs t z hz
def SubC' (l l' : LO) : Prop := ∀ t y, lkp l t = some y → ∃ x, lkp l' t = some x ∧ WkC x y
theorem SubC'.nil {l' : LO} : SubC' [] l' := fun t y h => by simp [lkp] at h
theorem SubC'.cons {n : Nat} {x y : List BV} {l l' : LO} (h : lkp l' n = some x) (w : WkC x y) (hs : SubC' l l') : SubC' ((n, y) :: l) l' := by
  intro t z hz
  simp only [lkp] at hz
  cases hn : Nat.beq n t with
  | true =>
    have := Nat.eq_of_beq_eq_true hn
    subst this
    simp only [hn, cond_true, Option.some.injEq] at hz
    subst hz; exact ⟨x, h, w⟩
  | false => simp only [hn, cond_false] at hz; exact hs t z hz
section
variable {T : Nat → Option TI} {ZB : Nat → Option (List BV)} {call : CallF} {h : FH} {N : Nat} {bs : Base} {sl sl' : SL} {lo lo' ob ob' df df' : LO} {Q Q' : QB} {c a b : Code}
theorem RepBS.weakW {G : Gh} {st : St} {s : BS} (hst : RepBS G N s st) (h1 : SubW sl' s.sl) (h2 : SubC' lo' s.lo) (h3 : SubC' ob' s.ob) : RepBS G N ⟨sl', [], lo', ob', s.df⟩ st :=
  ⟨hst.len, fun t y hy => by
    obtain ⟨x, x1, x2⟩ := h1 t y hy
    obtain ⟨z, z1, z2⟩ := hst.sl t x x1
    exact ⟨z, z1, z2.wk x2⟩, fun u d hd => by
    obtain ⟨x, x1, x2⟩ := h2 u d hd
    obtain ⟨z, z1, z2⟩ := hst.lo u x x1
    exact ⟨z, z1, VBs.wk z2 x2⟩, fun t c hc => by
    obtain ⟨x, x1, x2⟩ := h3 t c hc
    exact ObR.wk (hst.ob t x x1) x2, hst.df⟩
theorem y_weakW (h1 : SubW sl' sl) (h2 : SubC' lo' lo) (h3 : SubC' ob' ob) (hx : XB T call h N bs c sl' lo' ob' df Q) : XB T call h N bs c sl lo ob df Q := fun G st hst hc =>
  hx G st (hst.weakW h1 h2 h3) hc
def JoinW {α : Type} (f : α → SL) (g o : α → LO) (P : α → Prop) (df0 : LO) (Q : QB) : QB
  | .normal, sl, lo, ob, df => ∃ a, SubW (f a) sl ∧ SubC' (g a) lo ∧ SubC' (o a) ob ∧ df = df0 ∧ P a
  | x, sl, lo, ob, df => Q x sl lo ob df
theorem y_joinW {α : Type} (f : α → SL) (g o : α → LO) (P : α → Prop) (h1 : XB T call h N bs a sl lo ob df (JoinW f g o P df' Q)) (h2 : ∀ v, P v → XB T call h N bs b (f v) (g v) (o v) df' Q) : XB T call h N bs (.seq a b) sl lo ob df Q := by
  refine y_seq (y_mono h1 fun x sl lo ob df hj => ?_)
  cases x with
  | normal =>
    obtain ⟨v, q1, q2, q3, rfl, q5⟩ := hj
    exact y_weakW q1 q2 q3 (h2 v q5)
  | _ => exact hj
def RoundW {σ β : Type} (f : σ → SL) (g o : σ → LO) (df0 : LO) (r : σ ⊕ β) (Qb : β → QB) : QB
  | .normal, sl, lo, ob, df => ∃ s, r = .inl s ∧ SubW (f s) sl ∧ SubC' (g s) lo ∧ SubC' (o s) ob ∧ df = df0
  | x, sl, lo, ob, df => ∃ b, r = .inr b ∧ Qb b x sl lo ob df
theorem y_loopW {σ β : Type} {body : σ → Option (σ ⊕ β)} {n : Nat} {s0 : σ} {r : β} (f : σ → SL) (g o : σ → LO) (hit : itN body n s0 = some r) (h1 : SubW (f s0) sl) (h2 : SubC' (g s0) lo) (h3 : SubC' (o s0) ob)
    (hb : ∀ s w, body s = some w → XB T call h N bs c (f s) (g s) (o s) df (RoundW f g o df w (fun b x sl lo ob df => b = r → Q x sl lo ob df))) : XB T call h N bs (.loop c) sl lo ob df Q := by
  have key : ∀ (n : Nat) (s : σ) (sl : SL) (lo ob : LO), itN body n s = some r → SubW (f s) sl → SubC' (g s) lo → SubC' (o s) ob → ∀ G st, RepBS G N ⟨sl, [], lo, ob, df⟩ st → Cg bs G st.hp → ∃ e st' k, iter (execL T call h c) k st = some (e, st') ∧ ∃ G' x sl' lo' ob' df', RepBS G' N ⟨sl', [], lo', ob', df'⟩ st' ∧ Cg bs G' st'.hp ∧ BXr G' st'.hp e x ∧ Q x sl' lo' ob' df' := by
    intro n
    induction n with
    | zero => intro s sl lo ob hi; simp [itN] at hi
    | succ n ih =>
      intro s sl lo ob hi k1 k2 k3 G st hst hc
      simp only [itN] at hi
      split at hi
      · rename_i s' hs'
        obtain ⟨e, st1, q1, G', x, sl', lo', ob', df', q2, q3, q4, q5⟩ := hb s _ hs' G st (hst.weakW k1 k2 k3) hc
        cases q4 with
        | normal =>
          obtain ⟨s'', e1, e2, e3, e4, rfl⟩ := q5
          simp only [Sum.inl.injEq] at e1; subst e1
          obtain ⟨e, st2, k, w1, w2⟩ := ih s' sl' lo' ob' hi e2 e3 e4 G' st1 q2 q3
          exact ⟨e, st2, k + 1, by simp only [iter, q1]; exact w1, w2⟩
        | exit => obtain ⟨b, e1, _⟩ := q5; cases e1
        | ret => obtain ⟨b, e1, _⟩ := q5; cases e1
        | panic => obtain ⟨b, e1, _⟩ := q5; cases e1
      · rename_i b hb'
        simp only [Option.some.injEq] at hi; subst hi
        obtain ⟨e, st1, q1, G', x, sl', lo', ob', df', q2, q3, q4, q5⟩ := hb s _ hb' G st (hst.weakW k1 k2 k3) hc
        cases q4 with
        | normal => obtain ⟨b, e1, _⟩ := q5; cases e1
        | exit =>
          obtain ⟨b', e1, e2⟩ := q5
          simp only [Sum.inr.injEq] at e1; subst e1
          exact ⟨_, st1, 1, by simp only [iter, q1], G', _, sl', lo', ob', df', q2, q3, .exit, e2 rfl⟩
        | ret =>
          obtain ⟨b', e1, e2⟩ := q5
          simp only [Sum.inr.injEq] at e1; subst e1
          exact ⟨_, st1, 1, by simp only [iter, q1], G', _, sl', lo', ob', df', q2, q3, .ret, e2 rfl⟩
        | panic hv =>
          obtain ⟨b', e1, e2⟩ := q5
          simp only [Sum.inr.injEq] at e1; subst e1
          exact ⟨_, st1, 1, by simp only [iter, q1], G', _, sl', lo', ob', df', q2, q3, .panic hv, e2 rfl⟩
      · cases hi
  intro G st hst hc
  obtain ⟨e, st', k, g1, g2⟩ := key n s0 sl lo ob hit h1 h2 h3 G st hst hc
  exact ⟨e, st', by simp only [execL]; exact iterL_iff.2 ⟨k, g1⟩, g2⟩
end
def noP (_ : Nat) : Bool := false
section
theorem frS_00 : ∀ l : SL, frS 0 0 l = l
  | [] => rfl
  | (t, x) :: l => by
    simp only [frS, frS_00 l]
    cases x with
    | v a => simp only [BSlot.fr, BV.free0, cond_true]
    | _ => rfl
theorem frV_00 : ∀ l : List BV, frV 0 0 l = l
  | [] => rfl
  | v :: l => by simp only [frV, frV_00 l, BV.fr, BV.free0, cond_true]
theorem frL_00 : ∀ l : LO, frL 0 0 l = l
  | [] => rfl
  | (t, x) :: l => by simp only [frL, frL_00 l, frV_00]
theorem frO_00 {O : Nat → Bool} (hO : ∀ t, O t = false) : ∀ l : LO, frO 0 0 O l = l
  | [] => rfl
  | (t, x) :: l => by simp only [frO, hO, Nat.zero_testBit, Bool.or_self, cond_false, frO_00 hO l, frV_00]
variable {T : Nat → Option TI} {ZB : Nat → Option (List BV)} {call : CallF} {bx : List Nat} {ops : List Oper} {bs : Base} {pk : List Nat} {l : List (Oper × List Nat)} {o : Oper} {ws : List Nat} {sl env : SL} {lo ob df : LO} {Q : QN} {Qp : QP} {d : Nat}
/-- A call that touches no object, and returns. -/
theorem xb_call0 {f : Operand} {args : Array Operand} {ts : Array Nat} {g : Nat} {cap al args' : List BV} {v : BV} (am : Nat) (v' : BV) (hw : wantB ops env o = some true) (ho : o.op = .call ⟨.value f, args, ts⟩) (hd : o.dst = some d) (hf : BS.val ⟨sl, env, lo, ob, df⟩ f = some (.fn g cap)) (hl : BS.vals ZB ⟨sl, env, lo, ob, df⟩ args.toList ts.toList = some al)
    (hwi : BV.within.ws ⟨[], [], [], am, 1⟩ (al ++ cap) = true) (ha : Rn.out.outs ⟨[], [], [], am, 1⟩ (al ++ cap) = args') (hc : CallB call noP g args' [] (fun r ob => r = .ret v ∧ ob = [])) (hs : pkSs ops ⟨sl, env, lo, ob, df⟩ (fun _ => false) pk = true) (hn : pkNs ops o.dst pk = true) (hk : subN ws pk = true) (hv : Rn.back ⟨[], [], [], am, 1⟩ v = v')
    (h1 : XRB T call bx ops bs pk l ⟨sl, (d, .v v') :: env, lo, ob, df⟩ Q Qp) : XRB T call bx ops bs pk ((o, ws) :: l) ⟨sl, env, lo, ob, df⟩ Q Qp := by
  have hO : ∀ t, (⟨[], [], [], am, 1⟩ : Rn).O noP t = false := fun _ => rfl
  refine xb_call ⟨[], [], [], am, 1⟩ hw ho hd hf hl rfl hwi rfl rfl ha hc (by rw [show (⟨[], [], [], am, 1⟩ : Rn).O noP = fun _ => false from rfl]; exact hs) hn hk (fun w ob' hΦ => ?_) (fun w ob' hΦ => by cases hΦ.1)
  obtain ⟨h2, rfl⟩ := hΦ
  simp only [RB.ret.injEq] at h2
  subst h2
  have e1 : (⟨[], [], [], am, 1⟩ : Rn).U noP = 0 := rfl
  have e2 : (⟨[], [], [], am, 1⟩ : Rn).D = 0 := rfl
  rw [e1, e2, frS_00, frS_00, frL_00, frL_00, frO_00 hO, hv]
  exact h1
theorem xb_look' {i t a : Nat} {y : BSlot} (hw : wantB ops env o = some true) (hp1 : ropB T ZB ⟨sl, env, lo, ob, df⟩ o.type o.op = some y) (ho : o.op = .load t (.tmp a)) (hg : gdN ops d o = true) (hd : o.dst = some d) (hn : pkNs ops o.dst pk = true) (hx : ops[i]? = some o) (hda : Nat.beq d a = false) (hk : ws = []) (h : XRB T call bx ops bs (i :: pk) l ⟨sl, (d, y) :: env, lo, ob, df⟩ Q Qp) : XRB T call bx ops bs pk ((o, ws) :: l) ⟨sl, env, lo, ob, df⟩ Q Qp :=
  xb_look hw (ropB_sound hp1) ho hg hd hn hx hda hk h
end
end Go.Eng
