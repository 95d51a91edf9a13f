/- Texts E49 to E58 of this proof, in one. -/
import Derived.Test.YtmddacjemlkhpaaW3
import Derived.SizedLaws
import Derived.ChangeArms
import Derived.ChangeOld
import Derived.Carry
import Derived.RowKit
import Derived.JoinedOf
/- ENGINE 49: loops and joins told by several values. Printed by mk49.py. -/
set_option linter.unusedVariables false
namespace Go.Eng
open Go
section
variable {T : Nat → Option TI} {call : CallF} {h : FH} {N : Nat} {bs : Base} {sl : SL} {lo ob df df' : LO} {Q : QB} {c a b : Code}
theorem y_lp {σ τ β : Type} {body : σ → Option (σ ⊕ (τ ⊕ β))} {s0 : σ} {K : τ → Option β} {y : β} (hl : lp body s0 K = some y) (f : σ → SL) (g o : σ → LO) (h1 : SubW (f s0) sl) (h2 : SubC' (g s0) lo) (h3 : SubC' (o s0) ob)
    (hb : ∀ s w, body s = some w → XB T call h N bs c (f s) (g s) (o s) df (RoundW f g o df w (fun b x sl lo ob df => (match b with | .inl v => K v = some y | .inr z => z = y) → Q x sl lo ob df))) : XB T call h N bs (.loop c) sl lo ob df Q := by
  obtain ⟨r, hr, hk⟩ := lpE hl
  refine y_loopW f g o hr h1 h2 h3 fun s w hw => y_mono (hb s w hw) fun x sl lo ob df hq => ?_
  cases x with
  | normal => exact hq
  | exit i => obtain ⟨b, e1, e2⟩ := hq; exact ⟨b, e1, fun e => e2 (by subst e; exact hk)⟩
  | ret => obtain ⟨b, e1, e2⟩ := hq; exact ⟨b, e1, fun e => e2 (by subst e; exact hk)⟩
  | panic v => obtain ⟨b, e1, e2⟩ := hq; exact ⟨b, e1, fun e => e2 (by subst e; exact hk)⟩
def lp0 {τ β : Type} (body : Option ((Unit) ⊕ (τ ⊕ β))) (K : τ → Option β) : Option β := lp (fun _ : Unit => body) () K
theorem y_lp0 {τ β : Type} {body : Option ((Unit) ⊕ (τ ⊕ β))} {K : τ → Option β} {y : β} (hl : lp0 body  K = some y) (f : SL) (g o : LO) (h1 : SubW f sl) (h2 : SubC' g lo) (h3 : SubC' o ob)
    (hb : ∀ w, body = some w → XB T call h N bs c f g o df (RoundW (fun _ : Unit => f) (fun _ : Unit => g) (fun _ : Unit => o) df w (fun b x sl lo ob df => (match b with | .inl v => K v = some y | .inr z => z = y) → Q x sl lo ob df))) : XB T call h N bs (.loop c) sl lo ob df Q :=
  y_lp hl (fun _ : Unit => f) (fun _ : Unit => g) (fun _ : Unit => o) h1 h2 h3 fun v w hw => hb  w hw
theorem y_join0 (f : SL) (g o : LO) (P : Prop) (h1 : XB T call h N bs a sl lo ob df (JoinW (fun _ : Unit => f) (fun _ : Unit => g) (fun _ : Unit => o) (fun _ : Unit => P) df' Q)) (h2 : P → XB T call h N bs b f g o df' Q) : XB T call h N bs (.seq a b) sl lo ob df Q :=
  y_joinW (fun _ : Unit => f) (fun _ : Unit => g) (fun _ : Unit => o) (fun _ : Unit => P) h1 fun v hv => h2  hv
def lp1 {A0 : Type} {τ β : Type} (body : A0 → Option ((A0) ⊕ (τ ⊕ β))) (a0 : A0) (K : τ → Option β) : Option β := lp (fun v : A0 => body v) (a0) K
theorem y_lp1 {A0 : Type} {τ β : Type} {body : A0 → Option ((A0) ⊕ (τ ⊕ β))} {a0 : A0} {K : τ → Option β} {y : β} (hl : lp1 body a0 K = some y) (f : A0 → SL) (g o : A0 → LO) (h1 : SubW (f a0) sl) (h2 : SubC' (g a0) lo) (h3 : SubC' (o a0) ob)
    (hb : ∀ (a0 : A0), ∀ w, body a0 = some w → XB T call h N bs c (f a0) (g a0) (o a0) df (RoundW (fun v : A0 => f v) (fun v : A0 => g v) (fun v : A0 => o v) df w (fun b x sl lo ob df => (match b with | .inl v => K v = some y | .inr z => z = y) → Q x sl lo ob df))) : XB T call h N bs (.loop c) sl lo ob df Q :=
  y_lp hl (fun v : A0 => f v) (fun v : A0 => g v) (fun v : A0 => o v) h1 h2 h3 fun v w hw => hb v w hw
theorem y_join1 {A0 : Type} (f : A0 → SL) (g o : A0 → LO) (P : A0 → Prop) (h1 : XB T call h N bs a sl lo ob df (JoinW (fun v : A0 => f v) (fun v : A0 => g v) (fun v : A0 => o v) (fun v : A0 => P v) df' Q)) (h2 : ∀ (a0 : A0), P a0 → XB T call h N bs b (f a0) (g a0) (o a0) df' Q) : XB T call h N bs (.seq a b) sl lo ob df Q :=
  y_joinW (fun v : A0 => f v) (fun v : A0 => g v) (fun v : A0 => o v) (fun v : A0 => P v) h1 fun v hv => h2 v hv
def lp2 {A0 A1 : Type} {τ β : Type} (body : A0 → A1 → Option ((A0 × A1) ⊕ (τ ⊕ β))) (a0 : A0) (a1 : A1) (K : τ → Option β) : Option β := lp (fun v : A0 × A1 => body v.1 v.2) (a0, a1) K
theorem y_lp2 {A0 A1 : Type} {τ β : Type} {body : A0 → A1 → Option ((A0 × A1) ⊕ (τ ⊕ β))} {a0 : A0} {a1 : A1} {K : τ → Option β} {y : β} (hl : lp2 body a0 a1 K = some y) (f : A0 → A1 → SL) (g o : A0 → A1 → LO) (h1 : SubW (f a0 a1) sl) (h2 : SubC' (g a0 a1) lo) (h3 : SubC' (o a0 a1) ob)
    (hb : ∀ (a0 : A0) (a1 : A1), ∀ w, body a0 a1 = some w → XB T call h N bs c (f a0 a1) (g a0 a1) (o a0 a1) df (RoundW (fun v : A0 × A1 => f v.1 v.2) (fun v : A0 × A1 => g v.1 v.2) (fun v : A0 × A1 => o v.1 v.2) df w (fun b x sl lo ob df => (match b with | .inl v => K v = some y | .inr z => z = y) → Q x sl lo ob df))) : XB T call h N bs (.loop c) sl lo ob df Q :=
  y_lp hl (fun v : A0 × A1 => f v.1 v.2) (fun v : A0 × A1 => g v.1 v.2) (fun v : A0 × A1 => o v.1 v.2) h1 h2 h3 fun v w hw => hb v.1 v.2 w hw
theorem y_join2 {A0 A1 : Type} (f : A0 → A1 → SL) (g o : A0 → A1 → LO) (P : A0 → A1 → Prop) (h1 : XB T call h N bs a sl lo ob df (JoinW (fun v : A0 × A1 => f v.1 v.2) (fun v : A0 × A1 => g v.1 v.2) (fun v : A0 × A1 => o v.1 v.2) (fun v : A0 × A1 => P v.1 v.2) df' Q)) (h2 : ∀ (a0 : A0) (a1 : A1), P a0 a1 → XB T call h N bs b (f a0 a1) (g a0 a1) (o a0 a1) df' Q) : XB T call h N bs (.seq a b) sl lo ob df Q :=
  y_joinW (fun v : A0 × A1 => f v.1 v.2) (fun v : A0 × A1 => g v.1 v.2) (fun v : A0 × A1 => o v.1 v.2) (fun v : A0 × A1 => P v.1 v.2) h1 fun v hv => h2 v.1 v.2 hv
def lp3 {A0 A1 A2 : Type} {τ β : Type} (body : A0 → A1 → A2 → Option ((A0 × A1 × A2) ⊕ (τ ⊕ β))) (a0 : A0) (a1 : A1) (a2 : A2) (K : τ → Option β) : Option β := lp (fun v : A0 × A1 × A2 => body v.1 v.2.1 v.2.2) (a0, a1, a2) K
theorem y_lp3 {A0 A1 A2 : Type} {τ β : Type} {body : A0 → A1 → A2 → Option ((A0 × A1 × A2) ⊕ (τ ⊕ β))} {a0 : A0} {a1 : A1} {a2 : A2} {K : τ → Option β} {y : β} (hl : lp3 body a0 a1 a2 K = some y) (f : A0 → A1 → A2 → SL) (g o : A0 → A1 → A2 → LO) (h1 : SubW (f a0 a1 a2) sl) (h2 : SubC' (g a0 a1 a2) lo) (h3 : SubC' (o a0 a1 a2) ob)
    (hb : ∀ (a0 : A0) (a1 : A1) (a2 : A2), ∀ w, body a0 a1 a2 = some w → XB T call h N bs c (f a0 a1 a2) (g a0 a1 a2) (o a0 a1 a2) df (RoundW (fun v : A0 × A1 × A2 => f v.1 v.2.1 v.2.2) (fun v : A0 × A1 × A2 => g v.1 v.2.1 v.2.2) (fun v : A0 × A1 × A2 => o v.1 v.2.1 v.2.2) df w (fun b x sl lo ob df => (match b with | .inl v => K v = some y | .inr z => z = y) → Q x sl lo ob df))) : XB T call h N bs (.loop c) sl lo ob df Q :=
  y_lp hl (fun v : A0 × A1 × A2 => f v.1 v.2.1 v.2.2) (fun v : A0 × A1 × A2 => g v.1 v.2.1 v.2.2) (fun v : A0 × A1 × A2 => o v.1 v.2.1 v.2.2) h1 h2 h3 fun v w hw => hb v.1 v.2.1 v.2.2 w hw
theorem y_join3 {A0 A1 A2 : Type} (f : A0 → A1 → A2 → SL) (g o : A0 → A1 → A2 → LO) (P : A0 → A1 → A2 → Prop) (h1 : XB T call h N bs a sl lo ob df (JoinW (fun v : A0 × A1 × A2 => f v.1 v.2.1 v.2.2) (fun v : A0 × A1 × A2 => g v.1 v.2.1 v.2.2) (fun v : A0 × A1 × A2 => o v.1 v.2.1 v.2.2) (fun v : A0 × A1 × A2 => P v.1 v.2.1 v.2.2) df' Q)) (h2 : ∀ (a0 : A0) (a1 : A1) (a2 : A2), P a0 a1 a2 → XB T call h N bs b (f a0 a1 a2) (g a0 a1 a2) (o a0 a1 a2) df' Q) : XB T call h N bs (.seq a b) sl lo ob df Q :=
  y_joinW (fun v : A0 × A1 × A2 => f v.1 v.2.1 v.2.2) (fun v : A0 × A1 × A2 => g v.1 v.2.1 v.2.2) (fun v : A0 × A1 × A2 => o v.1 v.2.1 v.2.2) (fun v : A0 × A1 × A2 => P v.1 v.2.1 v.2.2) h1 fun v hv => h2 v.1 v.2.1 v.2.2 hv
def lp4 {A0 A1 A2 A3 : Type} {τ β : Type} (body : A0 → A1 → A2 → A3 → Option ((A0 × A1 × A2 × A3) ⊕ (τ ⊕ β))) (a0 : A0) (a1 : A1) (a2 : A2) (a3 : A3) (K : τ → Option β) : Option β := lp (fun v : A0 × A1 × A2 × A3 => body v.1 v.2.1 v.2.2.1 v.2.2.2) (a0, a1, a2, a3) K
theorem y_lp4 {A0 A1 A2 A3 : Type} {τ β : Type} {body : A0 → A1 → A2 → A3 → Option ((A0 × A1 × A2 × A3) ⊕ (τ ⊕ β))} {a0 : A0} {a1 : A1} {a2 : A2} {a3 : A3} {K : τ → Option β} {y : β} (hl : lp4 body a0 a1 a2 a3 K = some y) (f : A0 → A1 → A2 → A3 → SL) (g o : A0 → A1 → A2 → A3 → LO) (h1 : SubW (f a0 a1 a2 a3) sl) (h2 : SubC' (g a0 a1 a2 a3) lo) (h3 : SubC' (o a0 a1 a2 a3) ob)
    (hb : ∀ (a0 : A0) (a1 : A1) (a2 : A2) (a3 : A3), ∀ w, body a0 a1 a2 a3 = some w → XB T call h N bs c (f a0 a1 a2 a3) (g a0 a1 a2 a3) (o a0 a1 a2 a3) df (RoundW (fun v : A0 × A1 × A2 × A3 => f v.1 v.2.1 v.2.2.1 v.2.2.2) (fun v : A0 × A1 × A2 × A3 => g v.1 v.2.1 v.2.2.1 v.2.2.2) (fun v : A0 × A1 × A2 × A3 => o v.1 v.2.1 v.2.2.1 v.2.2.2) df w (fun b x sl lo ob df => (match b with | .inl v => K v = some y | .inr z => z = y) → Q x sl lo ob df))) : XB T call h N bs (.loop c) sl lo ob df Q :=
  y_lp hl (fun v : A0 × A1 × A2 × A3 => f v.1 v.2.1 v.2.2.1 v.2.2.2) (fun v : A0 × A1 × A2 × A3 => g v.1 v.2.1 v.2.2.1 v.2.2.2) (fun v : A0 × A1 × A2 × A3 => o v.1 v.2.1 v.2.2.1 v.2.2.2) h1 h2 h3 fun v w hw => hb v.1 v.2.1 v.2.2.1 v.2.2.2 w hw
theorem y_join4 {A0 A1 A2 A3 : Type} (f : A0 → A1 → A2 → A3 → SL) (g o : A0 → A1 → A2 → A3 → LO) (P : A0 → A1 → A2 → A3 → Prop) (h1 : XB T call h N bs a sl lo ob df (JoinW (fun v : A0 × A1 × A2 × A3 => f v.1 v.2.1 v.2.2.1 v.2.2.2) (fun v : A0 × A1 × A2 × A3 => g v.1 v.2.1 v.2.2.1 v.2.2.2) (fun v : A0 × A1 × A2 × A3 => o v.1 v.2.1 v.2.2.1 v.2.2.2) (fun v : A0 × A1 × A2 × A3 => P v.1 v.2.1 v.2.2.1 v.2.2.2) df' Q)) (h2 : ∀ (a0 : A0) (a1 : A1) (a2 : A2) (a3 : A3), P a0 a1 a2 a3 → XB T call h N bs b (f a0 a1 a2 a3) (g a0 a1 a2 a3) (o a0 a1 a2 a3) df' Q) : XB T call h N bs (.seq a b) sl lo ob df Q :=
  y_joinW (fun v : A0 × A1 × A2 × A3 => f v.1 v.2.1 v.2.2.1 v.2.2.2) (fun v : A0 × A1 × A2 × A3 => g v.1 v.2.1 v.2.2.1 v.2.2.2) (fun v : A0 × A1 × A2 × A3 => o v.1 v.2.1 v.2.2.1 v.2.2.2) (fun v : A0 × A1 × A2 × A3 => P v.1 v.2.1 v.2.2.1 v.2.2.2) h1 fun v hv => h2 v.1 v.2.1 v.2.2.1 v.2.2.2 hv
def lp5 {A0 A1 A2 A3 A4 : Type} {τ β : Type} (body : A0 → A1 → A2 → A3 → A4 → Option ((A0 × A1 × A2 × A3 × A4) ⊕ (τ ⊕ β))) (a0 : A0) (a1 : A1) (a2 : A2) (a3 : A3) (a4 : A4) (K : τ → Option β) : Option β := lp (fun v : A0 × A1 × A2 × A3 × A4 => body v.1 v.2.1 v.2.2.1 v.2.2.2.1 v.2.2.2.2) (a0, a1, a2, a3, a4) K
theorem y_lp5 {A0 A1 A2 A3 A4 : Type} {τ β : Type} {body : A0 → A1 → A2 → A3 → A4 → Option ((A0 × A1 × A2 × A3 × A4) ⊕ (τ ⊕ β))} {a0 : A0} {a1 : A1} {a2 : A2} {a3 : A3} {a4 : A4} {K : τ → Option β} {y : β} (hl : lp5 body a0 a1 a2 a3 a4 K = some y) (f : A0 → A1 → A2 → A3 → A4 → SL) (g o : A0 → A1 → A2 → A3 → A4 → LO) (h1 : SubW (f a0 a1 a2 a3 a4) sl) (h2 : SubC' (g a0 a1 a2 a3 a4) lo) (h3 : SubC' (o a0 a1 a2 a3 a4) ob)
    (hb : ∀ (a0 : A0) (a1 : A1) (a2 : A2) (a3 : A3) (a4 : A4), ∀ w, body a0 a1 a2 a3 a4 = some w → XB T call h N bs c (f a0 a1 a2 a3 a4) (g a0 a1 a2 a3 a4) (o a0 a1 a2 a3 a4) df (RoundW (fun v : A0 × A1 × A2 × A3 × A4 => f v.1 v.2.1 v.2.2.1 v.2.2.2.1 v.2.2.2.2) (fun v : A0 × A1 × A2 × A3 × A4 => g v.1 v.2.1 v.2.2.1 v.2.2.2.1 v.2.2.2.2) (fun v : A0 × A1 × A2 × A3 × A4 => o v.1 v.2.1 v.2.2.1 v.2.2.2.1 v.2.2.2.2) df w (fun b x sl lo ob df => (match b with | .inl v => K v = some y | .inr z => z = y) → Q x sl lo ob df))) : XB T call h N bs (.loop c) sl lo ob df Q :=
  y_lp hl (fun v : A0 × A1 × A2 × A3 × A4 => f v.1 v.2.1 v.2.2.1 v.2.2.2.1 v.2.2.2.2) (fun v : A0 × A1 × A2 × A3 × A4 => g v.1 v.2.1 v.2.2.1 v.2.2.2.1 v.2.2.2.2) (fun v : A0 × A1 × A2 × A3 × A4 => o v.1 v.2.1 v.2.2.1 v.2.2.2.1 v.2.2.2.2) h1 h2 h3 fun v w hw => hb v.1 v.2.1 v.2.2.1 v.2.2.2.1 v.2.2.2.2 w hw
theorem y_join5 {A0 A1 A2 A3 A4 : Type} (f : A0 → A1 → A2 → A3 → A4 → SL) (g o : A0 → A1 → A2 → A3 → A4 → LO) (P : A0 → A1 → A2 → A3 → A4 → Prop) (h1 : XB T call h N bs a sl lo ob df (JoinW (fun v : A0 × A1 × A2 × A3 × A4 => f v.1 v.2.1 v.2.2.1 v.2.2.2.1 v.2.2.2.2) (fun v : A0 × A1 × A2 × A3 × A4 => g v.1 v.2.1 v.2.2.1 v.2.2.2.1 v.2.2.2.2) (fun v : A0 × A1 × A2 × A3 × A4 => o v.1 v.2.1 v.2.2.1 v.2.2.2.1 v.2.2.2.2) (fun v : A0 × A1 × A2 × A3 × A4 => P v.1 v.2.1 v.2.2.1 v.2.2.2.1 v.2.2.2.2) df' Q)) (h2 : ∀ (a0 : A0) (a1 : A1) (a2 : A2) (a3 : A3) (a4 : A4), P a0 a1 a2 a3 a4 → XB T call h N bs b (f a0 a1 a2 a3 a4) (g a0 a1 a2 a3 a4) (o a0 a1 a2 a3 a4) df' Q) : XB T call h N bs (.seq a b) sl lo ob df Q :=
  y_joinW (fun v : A0 × A1 × A2 × A3 × A4 => f v.1 v.2.1 v.2.2.1 v.2.2.2.1 v.2.2.2.2) (fun v : A0 × A1 × A2 × A3 × A4 => g v.1 v.2.1 v.2.2.1 v.2.2.2.1 v.2.2.2.2) (fun v : A0 × A1 × A2 × A3 × A4 => o v.1 v.2.1 v.2.2.1 v.2.2.2.1 v.2.2.2.2) (fun v : A0 × A1 × A2 × A3 × A4 => P v.1 v.2.1 v.2.2.1 v.2.2.2.1 v.2.2.2.2) h1 fun v hv => h2 v.1 v.2.1 v.2.2.1 v.2.2.2.1 v.2.2.2.2 hv
def lp6 {A0 A1 A2 A3 A4 A5 : Type} {τ β : Type} (body : A0 → A1 → A2 → A3 → A4 → A5 → Option ((A0 × A1 × A2 × A3 × A4 × A5) ⊕ (τ ⊕ β))) (a0 : A0) (a1 : A1) (a2 : A2) (a3 : A3) (a4 : A4) (a5 : A5) (K : τ → Option β) : Option β := lp (fun v : A0 × A1 × A2 × A3 × A4 × A5 => body v.1 v.2.1 v.2.2.1 v.2.2.2.1 v.2.2.2.2.1 v.2.2.2.2.2) (a0, a1, a2, a3, a4, a5) K
theorem y_lp6 {A0 A1 A2 A3 A4 A5 : Type} {τ β : Type} {body : A0 → A1 → A2 → A3 → A4 → A5 → Option ((A0 × A1 × A2 × A3 × A4 × A5) ⊕ (τ ⊕ β))} {a0 : A0} {a1 : A1} {a2 : A2} {a3 : A3} {a4 : A4} {a5 : A5} {K : τ → Option β} {y : β} (hl : lp6 body a0 a1 a2 a3 a4 a5 K = some y) (f : A0 → A1 → A2 → A3 → A4 → A5 → SL) (g o : A0 → A1 → A2 → A3 → A4 → A5 → LO) (h1 : SubW (f a0 a1 a2 a3 a4 a5) sl) (h2 : SubC' (g a0 a1 a2 a3 a4 a5) lo) (h3 : SubC' (o a0 a1 a2 a3 a4 a5) ob)
    (hb : ∀ (a0 : A0) (a1 : A1) (a2 : A2) (a3 : A3) (a4 : A4) (a5 : A5), ∀ w, body a0 a1 a2 a3 a4 a5 = some w → XB T call h N bs c (f a0 a1 a2 a3 a4 a5) (g a0 a1 a2 a3 a4 a5) (o a0 a1 a2 a3 a4 a5) df (RoundW (fun v : A0 × A1 × A2 × A3 × A4 × A5 => f v.1 v.2.1 v.2.2.1 v.2.2.2.1 v.2.2.2.2.1 v.2.2.2.2.2) (fun v : A0 × A1 × A2 × A3 × A4 × A5 => g v.1 v.2.1 v.2.2.1 v.2.2.2.1 v.2.2.2.2.1 v.2.2.2.2.2) (fun v : A0 × A1 × A2 × A3 × A4 × A5 => o v.1 v.2.1 v.2.2.1 v.2.2.2.1 v.2.2.2.2.1 v.2.2.2.2.2) df w (fun b x sl lo ob df => (match b with | .inl v => K v = some y | .inr z => z = y) → Q x sl lo ob df))) : XB T call h N bs (.loop c) sl lo ob df Q :=
  y_lp hl (fun v : A0 × A1 × A2 × A3 × A4 × A5 => f v.1 v.2.1 v.2.2.1 v.2.2.2.1 v.2.2.2.2.1 v.2.2.2.2.2) (fun v : A0 × A1 × A2 × A3 × A4 × A5 => g v.1 v.2.1 v.2.2.1 v.2.2.2.1 v.2.2.2.2.1 v.2.2.2.2.2) (fun v : A0 × A1 × A2 × A3 × A4 × A5 => o v.1 v.2.1 v.2.2.1 v.2.2.2.1 v.2.2.2.2.1 v.2.2.2.2.2) h1 h2 h3 fun v w hw => hb v.1 v.2.1 v.2.2.1 v.2.2.2.1 v.2.2.2.2.1 v.2.2.2.2.2 w hw
theorem y_join6 {A0 A1 A2 A3 A4 A5 : Type} (f : A0 → A1 → A2 → A3 → A4 → A5 → SL) (g o : A0 → A1 → A2 → A3 → A4 → A5 → LO) (P : A0 → A1 → A2 → A3 → A4 → A5 → Prop) (h1 : XB T call h N bs a sl lo ob df (JoinW (fun v : A0 × A1 × A2 × A3 × A4 × A5 => f v.1 v.2.1 v.2.2.1 v.2.2.2.1 v.2.2.2.2.1 v.2.2.2.2.2) (fun v : A0 × A1 × A2 × A3 × A4 × A5 => g v.1 v.2.1 v.2.2.1 v.2.2.2.1 v.2.2.2.2.1 v.2.2.2.2.2) (fun v : A0 × A1 × A2 × A3 × A4 × A5 => o v.1 v.2.1 v.2.2.1 v.2.2.2.1 v.2.2.2.2.1 v.2.2.2.2.2) (fun v : A0 × A1 × A2 × A3 × A4 × A5 => P v.1 v.2.1 v.2.2.1 v.2.2.2.1 v.2.2.2.2.1 v.2.2.2.2.2) df' Q)) (h2 : ∀ (a0 : A0) (a1 : A1) (a2 : A2) (a3 : A3) (a4 : A4) (a5 : A5), P a0 a1 a2 a3 a4 a5 → XB T call h N bs b (f a0 a1 a2 a3 a4 a5) (g a0 a1 a2 a3 a4 a5) (o a0 a1 a2 a3 a4 a5) df' Q) : XB T call h N bs (.seq a b) sl lo ob df Q :=
  y_joinW (fun v : A0 × A1 × A2 × A3 × A4 × A5 => f v.1 v.2.1 v.2.2.1 v.2.2.2.1 v.2.2.2.2.1 v.2.2.2.2.2) (fun v : A0 × A1 × A2 × A3 × A4 × A5 => g v.1 v.2.1 v.2.2.1 v.2.2.2.1 v.2.2.2.2.1 v.2.2.2.2.2) (fun v : A0 × A1 × A2 × A3 × A4 × A5 => o v.1 v.2.1 v.2.2.1 v.2.2.2.1 v.2.2.2.2.1 v.2.2.2.2.2) (fun v : A0 × A1 × A2 × A3 × A4 × A5 => P v.1 v.2.1 v.2.2.1 v.2.2.2.1 v.2.2.2.2.1 v.2.2.2.2.2) h1 fun v hv => h2 v.1 v.2.1 v.2.2.1 v.2.2.2.1 v.2.2.2.2.1 v.2.2.2.2.2 hv
def lp7 {A0 A1 A2 A3 A4 A5 A6 : Type} {τ β : Type} (body : A0 → A1 → A2 → A3 → A4 → A5 → A6 → Option ((A0 × A1 × A2 × A3 × A4 × A5 × A6) ⊕ (τ ⊕ β))) (a0 : A0) (a1 : A1) (a2 : A2) (a3 : A3) (a4 : A4) (a5 : A5) (a6 : A6) (K : τ → Option β) : Option β := lp (fun v : A0 × A1 × A2 × A3 × A4 × A5 × A6 => body v.1 v.2.1 v.2.2.1 v.2.2.2.1 v.2.2.2.2.1 v.2.2.2.2.2.1 v.2.2.2.2.2.2) (a0, a1, a2, a3, a4, a5, a6) K
theorem y_lp7 {A0 A1 A2 A3 A4 A5 A6 : Type} {τ β : Type} {body : A0 → A1 → A2 → A3 → A4 → A5 → A6 → Option ((A0 × A1 × A2 × A3 × A4 × A5 × A6) ⊕ (τ ⊕ β))} {a0 : A0} {a1 : A1} {a2 : A2} {a3 : A3} {a4 : A4} {a5 : A5} {a6 : A6} {K : τ → Option β} {y : β} (hl : lp7 body a0 a1 a2 a3 a4 a5 a6 K = some y) (f : A0 → A1 → A2 → A3 → A4 → A5 → A6 → SL) (g o : A0 → A1 → A2 → A3 → A4 → A5 → A6 → LO) (h1 : SubW (f a0 a1 a2 a3 a4 a5 a6) sl) (h2 : SubC' (g a0 a1 a2 a3 a4 a5 a6) lo) (h3 : SubC' (o a0 a1 a2 a3 a4 a5 a6) ob)
    (hb : ∀ (a0 : A0) (a1 : A1) (a2 : A2) (a3 : A3) (a4 : A4) (a5 : A5) (a6 : A6), ∀ w, body a0 a1 a2 a3 a4 a5 a6 = some w → XB T call h N bs c (f a0 a1 a2 a3 a4 a5 a6) (g a0 a1 a2 a3 a4 a5 a6) (o a0 a1 a2 a3 a4 a5 a6) df (RoundW (fun v : A0 × A1 × A2 × A3 × A4 × A5 × A6 => f v.1 v.2.1 v.2.2.1 v.2.2.2.1 v.2.2.2.2.1 v.2.2.2.2.2.1 v.2.2.2.2.2.2) (fun v : A0 × A1 × A2 × A3 × A4 × A5 × A6 => g v.1 v.2.1 v.2.2.1 v.2.2.2.1 v.2.2.2.2.1 v.2.2.2.2.2.1 v.2.2.2.2.2.2) (fun v : A0 × A1 × A2 × A3 × A4 × A5 × A6 => o v.1 v.2.1 v.2.2.1 v.2.2.2.1 v.2.2.2.2.1 v.2.2.2.2.2.1 v.2.2.2.2.2.2) df w (fun b x sl lo ob df => (match b with | .inl v => K v = some y | .inr z => z = y) → Q x sl lo ob df))) : XB T call h N bs (.loop c) sl lo ob df Q :=
  y_lp hl (fun v : A0 × A1 × A2 × A3 × A4 × A5 × A6 => f v.1 v.2.1 v.2.2.1 v.2.2.2.1 v.2.2.2.2.1 v.2.2.2.2.2.1 v.2.2.2.2.2.2) (fun v : A0 × A1 × A2 × A3 × A4 × A5 × A6 => g v.1 v.2.1 v.2.2.1 v.2.2.2.1 v.2.2.2.2.1 v.2.2.2.2.2.1 v.2.2.2.2.2.2) (fun v : A0 × A1 × A2 × A3 × A4 × A5 × A6 => o v.1 v.2.1 v.2.2.1 v.2.2.2.1 v.2.2.2.2.1 v.2.2.2.2.2.1 v.2.2.2.2.2.2) h1 h2 h3 fun v w hw => hb v.1 v.2.1 v.2.2.1 v.2.2.2.1 v.2.2.2.2.1 v.2.2.2.2.2.1 v.2.2.2.2.2.2 w hw
theorem y_join7 {A0 A1 A2 A3 A4 A5 A6 : Type} (f : A0 → A1 → A2 → A3 → A4 → A5 → A6 → SL) (g o : A0 → A1 → A2 → A3 → A4 → A5 → A6 → LO) (P : A0 → A1 → A2 → A3 → A4 → A5 → A6 → Prop) (h1 : XB T call h N bs a sl lo ob df (JoinW (fun v : A0 × A1 × A2 × A3 × A4 × A5 × A6 => f v.1 v.2.1 v.2.2.1 v.2.2.2.1 v.2.2.2.2.1 v.2.2.2.2.2.1 v.2.2.2.2.2.2) (fun v : A0 × A1 × A2 × A3 × A4 × A5 × A6 => g v.1 v.2.1 v.2.2.1 v.2.2.2.1 v.2.2.2.2.1 v.2.2.2.2.2.1 v.2.2.2.2.2.2) (fun v : A0 × A1 × A2 × A3 × A4 × A5 × A6 => o v.1 v.2.1 v.2.2.1 v.2.2.2.1 v.2.2.2.2.1 v.2.2.2.2.2.1 v.2.2.2.2.2.2) (fun v : A0 × A1 × A2 × A3 × A4 × A5 × A6 => P v.1 v.2.1 v.2.2.1 v.2.2.2.1 v.2.2.2.2.1 v.2.2.2.2.2.1 v.2.2.2.2.2.2) df' Q)) (h2 : ∀ (a0 : A0) (a1 : A1) (a2 : A2) (a3 : A3) (a4 : A4) (a5 : A5) (a6 : A6), P a0 a1 a2 a3 a4 a5 a6 → XB T call h N bs b (f a0 a1 a2 a3 a4 a5 a6) (g a0 a1 a2 a3 a4 a5 a6) (o a0 a1 a2 a3 a4 a5 a6) df' Q) : XB T call h N bs (.seq a b) sl lo ob df Q :=
  y_joinW (fun v : A0 × A1 × A2 × A3 × A4 × A5 × A6 => f v.1 v.2.1 v.2.2.1 v.2.2.2.1 v.2.2.2.2.1 v.2.2.2.2.2.1 v.2.2.2.2.2.2) (fun v : A0 × A1 × A2 × A3 × A4 × A5 × A6 => g v.1 v.2.1 v.2.2.1 v.2.2.2.1 v.2.2.2.2.1 v.2.2.2.2.2.1 v.2.2.2.2.2.2) (fun v : A0 × A1 × A2 × A3 × A4 × A5 × A6 => o v.1 v.2.1 v.2.2.1 v.2.2.2.1 v.2.2.2.2.1 v.2.2.2.2.2.1 v.2.2.2.2.2.2) (fun v : A0 × A1 × A2 × A3 × A4 × A5 × A6 => P v.1 v.2.1 v.2.2.1 v.2.2.2.1 v.2.2.2.2.1 v.2.2.2.2.2.1 v.2.2.2.2.2.2) h1 fun v hv => h2 v.1 v.2.1 v.2.2.1 v.2.2.2.1 v.2.2.2.2.1 v.2.2.2.2.2.1 v.2.2.2.2.2.2 hv
def lp8 {A0 A1 A2 A3 A4 A5 A6 A7 : Type} {τ β : Type} (body : A0 → A1 → A2 → A3 → A4 → A5 → A6 → A7 → Option ((A0 × A1 × A2 × A3 × A4 × A5 × A6 × A7) ⊕ (τ ⊕ β))) (a0 : A0) (a1 : A1) (a2 : A2) (a3 : A3) (a4 : A4) (a5 : A5) (a6 : A6) (a7 : A7) (K : τ → Option β) : Option β := lp (fun v : A0 × A1 × A2 × A3 × A4 × A5 × A6 × A7 => body v.1 v.2.1 v.2.2.1 v.2.2.2.1 v.2.2.2.2.1 v.2.2.2.2.2.1 v.2.2.2.2.2.2.1 v.2.2.2.2.2.2.2) (a0, a1, a2, a3, a4, a5, a6, a7) K
theorem y_lp8 {A0 A1 A2 A3 A4 A5 A6 A7 : Type} {τ β : Type} {body : A0 → A1 → A2 → A3 → A4 → A5 → A6 → A7 → Option ((A0 × A1 × A2 × A3 × A4 × A5 × A6 × A7) ⊕ (τ ⊕ β))} {a0 : A0} {a1 : A1} {a2 : A2} {a3 : A3} {a4 : A4} {a5 : A5} {a6 : A6} {a7 : A7} {K : τ → Option β} {y : β} (hl : lp8 body a0 a1 a2 a3 a4 a5 a6 a7 K = some y) (f : A0 → A1 → A2 → A3 → A4 → A5 → A6 → A7 → SL) (g o : A0 → A1 → A2 → A3 → A4 → A5 → A6 → A7 → LO) (h1 : SubW (f a0 a1 a2 a3 a4 a5 a6 a7) sl) (h2 : SubC' (g a0 a1 a2 a3 a4 a5 a6 a7) lo) (h3 : SubC' (o a0 a1 a2 a3 a4 a5 a6 a7) ob)
    (hb : ∀ (a0 : A0) (a1 : A1) (a2 : A2) (a3 : A3) (a4 : A4) (a5 : A5) (a6 : A6) (a7 : A7), ∀ w, body a0 a1 a2 a3 a4 a5 a6 a7 = some w → XB T call h N bs c (f a0 a1 a2 a3 a4 a5 a6 a7) (g a0 a1 a2 a3 a4 a5 a6 a7) (o a0 a1 a2 a3 a4 a5 a6 a7) df (RoundW (fun v : A0 × A1 × A2 × A3 × A4 × A5 × A6 × A7 => f v.1 v.2.1 v.2.2.1 v.2.2.2.1 v.2.2.2.2.1 v.2.2.2.2.2.1 v.2.2.2.2.2.2.1 v.2.2.2.2.2.2.2) (fun v : A0 × A1 × A2 × A3 × A4 × A5 × A6 × A7 => g v.1 v.2.1 v.2.2.1 v.2.2.2.1 v.2.2.2.2.1 v.2.2.2.2.2.1 v.2.2.2.2.2.2.1 v.2.2.2.2.2.2.2) (fun v : A0 × A1 × A2 × A3 × A4 × A5 × A6 × A7 => o v.1 v.2.1 v.2.2.1 v.2.2.2.1 v.2.2.2.2.1 v.2.2.2.2.2.1 v.2.2.2.2.2.2.1 v.2.2.2.2.2.2.2) df w (fun b x sl lo ob df => (match b with | .inl v => K v = some y | .inr z => z = y) → Q x sl lo ob df))) : XB T call h N bs (.loop c) sl lo ob df Q :=
  y_lp hl (fun v : A0 × A1 × A2 × A3 × A4 × A5 × A6 × A7 => f v.1 v.2.1 v.2.2.1 v.2.2.2.1 v.2.2.2.2.1 v.2.2.2.2.2.1 v.2.2.2.2.2.2.1 v.2.2.2.2.2.2.2) (fun v : A0 × A1 × A2 × A3 × A4 × A5 × A6 × A7 => g v.1 v.2.1 v.2.2.1 v.2.2.2.1 v.2.2.2.2.1 v.2.2.2.2.2.1 v.2.2.2.2.2.2.1 v.2.2.2.2.2.2.2) (fun v : A0 × A1 × A2 × A3 × A4 × A5 × A6 × A7 => o v.1 v.2.1 v.2.2.1 v.2.2.2.1 v.2.2.2.2.1 v.2.2.2.2.2.1 v.2.2.2.2.2.2.1 v.2.2.2.2.2.2.2) h1 h2 h3 fun v w hw => hb v.1 v.2.1 v.2.2.1 v.2.2.2.1 v.2.2.2.2.1 v.2.2.2.2.2.1 v.2.2.2.2.2.2.1 v.2.2.2.2.2.2.2 w hw
theorem y_join8 {A0 A1 A2 A3 A4 A5 A6 A7 : Type} (f : A0 → A1 → A2 → A3 → A4 → A5 → A6 → A7 → SL) (g o : A0 → A1 → A2 → A3 → A4 → A5 → A6 → A7 → LO) (P : A0 → A1 → A2 → A3 → A4 → A5 → A6 → A7 → Prop) (h1 : XB T call h N bs a sl lo ob df (JoinW (fun v : A0 × A1 × A2 × A3 × A4 × A5 × A6 × A7 => f v.1 v.2.1 v.2.2.1 v.2.2.2.1 v.2.2.2.2.1 v.2.2.2.2.2.1 v.2.2.2.2.2.2.1 v.2.2.2.2.2.2.2) (fun v : A0 × A1 × A2 × A3 × A4 × A5 × A6 × A7 => g v.1 v.2.1 v.2.2.1 v.2.2.2.1 v.2.2.2.2.1 v.2.2.2.2.2.1 v.2.2.2.2.2.2.1 v.2.2.2.2.2.2.2) (fun v : A0 × A1 × A2 × A3 × A4 × A5 × A6 × A7 => o v.1 v.2.1 v.2.2.1 v.2.2.2.1 v.2.2.2.2.1 v.2.2.2.2.2.1 v.2.2.2.2.2.2.1 v.2.2.2.2.2.2.2) (fun v : A0 × A1 × A2 × A3 × A4 × A5 × A6 × A7 => P v.1 v.2.1 v.2.2.1 v.2.2.2.1 v.2.2.2.2.1 v.2.2.2.2.2.1 v.2.2.2.2.2.2.1 v.2.2.2.2.2.2.2) df' Q)) (h2 : ∀ (a0 : A0) (a1 : A1) (a2 : A2) (a3 : A3) (a4 : A4) (a5 : A5) (a6 : A6) (a7 : A7), P a0 a1 a2 a3 a4 a5 a6 a7 → XB T call h N bs b (f a0 a1 a2 a3 a4 a5 a6 a7) (g a0 a1 a2 a3 a4 a5 a6 a7) (o a0 a1 a2 a3 a4 a5 a6 a7) df' Q) : XB T call h N bs (.seq a b) sl lo ob df Q :=
  y_joinW (fun v : A0 × A1 × A2 × A3 × A4 × A5 × A6 × A7 => f v.1 v.2.1 v.2.2.1 v.2.2.2.1 v.2.2.2.2.1 v.2.2.2.2.2.1 v.2.2.2.2.2.2.1 v.2.2.2.2.2.2.2) (fun v : A0 × A1 × A2 × A3 × A4 × A5 × A6 × A7 => g v.1 v.2.1 v.2.2.1 v.2.2.2.1 v.2.2.2.2.1 v.2.2.2.2.2.1 v.2.2.2.2.2.2.1 v.2.2.2.2.2.2.2) (fun v : A0 × A1 × A2 × A3 × A4 × A5 × A6 × A7 => o v.1 v.2.1 v.2.2.1 v.2.2.2.1 v.2.2.2.2.1 v.2.2.2.2.2.1 v.2.2.2.2.2.2.1 v.2.2.2.2.2.2.2) (fun v : A0 × A1 × A2 × A3 × A4 × A5 × A6 × A7 => P v.1 v.2.1 v.2.2.1 v.2.2.2.1 v.2.2.2.2.1 v.2.2.2.2.2.1 v.2.2.2.2.2.2.1 v.2.2.2.2.2.2.2) h1 fun v hv => h2 v.1 v.2.1 v.2.2.1 v.2.2.2.1 v.2.2.2.2.1 v.2.2.2.2.2.1 v.2.2.2.2.2.2.1 v.2.2.2.2.2.2.2 hv
def lp9 {A0 A1 A2 A3 A4 A5 A6 A7 A8 : Type} {τ β : Type} (body : A0 → A1 → A2 → A3 → A4 → A5 → A6 → A7 → A8 → Option ((A0 × A1 × A2 × A3 × A4 × A5 × A6 × A7 × A8) ⊕ (τ ⊕ β))) (a0 : A0) (a1 : A1) (a2 : A2) (a3 : A3) (a4 : A4) (a5 : A5) (a6 : A6) (a7 : A7) (a8 : A8) (K : τ → Option β) : Option β := lp (fun v : A0 × A1 × A2 × A3 × A4 × A5 × A6 × A7 × A8 => body v.1 v.2.1 v.2.2.1 v.2.2.2.1 v.2.2.2.2.1 v.2.2.2.2.2.1 v.2.2.2.2.2.2.1 v.2.2.2.2.2.2.2.1 v.2.2.2.2.2.2.2.2) (a0, a1, a2, a3, a4, a5, a6, a7, a8) K
theorem y_lp9 {A0 A1 A2 A3 A4 A5 A6 A7 A8 : Type} {τ β : Type} {body : A0 → A1 → A2 → A3 → A4 → A5 → A6 → A7 → A8 → Option ((A0 × A1 × A2 × A3 × A4 × A5 × A6 × A7 × A8) ⊕ (τ ⊕ β))} {a0 : A0} {a1 : A1} {a2 : A2} {a3 : A3} {a4 : A4} {a5 : A5} {a6 : A6} {a7 : A7} {a8 : A8} {K : τ → Option β} {y : β} (hl : lp9 body a0 a1 a2 a3 a4 a5 a6 a7 a8 K = some y) (f : A0 → A1 → A2 → A3 → A4 → A5 → A6 → A7 → A8 → SL) (g o : A0 → A1 → A2 → A3 → A4 → A5 → A6 → A7 → A8 → LO) (h1 : SubW (f a0 a1 a2 a3 a4 a5 a6 a7 a8) sl) (h2 : SubC' (g a0 a1 a2 a3 a4 a5 a6 a7 a8) lo) (h3 : SubC' (o a0 a1 a2 a3 a4 a5 a6 a7 a8) ob)
    (hb : ∀ (a0 : A0) (a1 : A1) (a2 : A2) (a3 : A3) (a4 : A4) (a5 : A5) (a6 : A6) (a7 : A7) (a8 : A8), ∀ w, body a0 a1 a2 a3 a4 a5 a6 a7 a8 = some w → XB T call h N bs c (f a0 a1 a2 a3 a4 a5 a6 a7 a8) (g a0 a1 a2 a3 a4 a5 a6 a7 a8) (o a0 a1 a2 a3 a4 a5 a6 a7 a8) df (RoundW (fun v : A0 × A1 × A2 × A3 × A4 × A5 × A6 × A7 × A8 => f v.1 v.2.1 v.2.2.1 v.2.2.2.1 v.2.2.2.2.1 v.2.2.2.2.2.1 v.2.2.2.2.2.2.1 v.2.2.2.2.2.2.2.1 v.2.2.2.2.2.2.2.2) (fun v : A0 × A1 × A2 × A3 × A4 × A5 × A6 × A7 × A8 => g v.1 v.2.1 v.2.2.1 v.2.2.2.1 v.2.2.2.2.1 v.2.2.2.2.2.1 v.2.2.2.2.2.2.1 v.2.2.2.2.2.2.2.1 v.2.2.2.2.2.2.2.2) (fun v : A0 × A1 × A2 × A3 × A4 × A5 × A6 × A7 × A8 => o v.1 v.2.1 v.2.2.1 v.2.2.2.1 v.2.2.2.2.1 v.2.2.2.2.2.1 v.2.2.2.2.2.2.1 v.2.2.2.2.2.2.2.1 v.2.2.2.2.2.2.2.2) df w (fun b x sl lo ob df => (match b with | .inl v => K v = some y | .inr z => z = y) → Q x sl lo ob df))) : XB T call h N bs (.loop c) sl lo ob df Q :=
  y_lp hl (fun v : A0 × A1 × A2 × A3 × A4 × A5 × A6 × A7 × A8 => f v.1 v.2.1 v.2.2.1 v.2.2.2.1 v.2.2.2.2.1 v.2.2.2.2.2.1 v.2.2.2.2.2.2.1 v.2.2.2.2.2.2.2.1 v.2.2.2.2.2.2.2.2) (fun v : A0 × A1 × A2 × A3 × A4 × A5 × A6 × A7 × A8 => g v.1 v.2.1 v.2.2.1 v.2.2.2.1 v.2.2.2.2.1 v.2.2.2.2.2.1 v.2.2.2.2.2.2.1 v.2.2.2.2.2.2.2.1 v.2.2.2.2.2.2.2.2) (fun v : A0 × A1 × A2 × A3 × A4 × A5 × A6 × A7 × A8 => o v.1 v.2.1 v.2.2.1 v.2.2.2.1 v.2.2.2.2.1 v.2.2.2.2.2.1 v.2.2.2.2.2.2.1 v.2.2.2.2.2.2.2.1 v.2.2.2.2.2.2.2.2) h1 h2 h3 fun v w hw => hb v.1 v.2.1 v.2.2.1 v.2.2.2.1 v.2.2.2.2.1 v.2.2.2.2.2.1 v.2.2.2.2.2.2.1 v.2.2.2.2.2.2.2.1 v.2.2.2.2.2.2.2.2 w hw
theorem y_join9 {A0 A1 A2 A3 A4 A5 A6 A7 A8 : Type} (f : A0 → A1 → A2 → A3 → A4 → A5 → A6 → A7 → A8 → SL) (g o : A0 → A1 → A2 → A3 → A4 → A5 → A6 → A7 → A8 → LO) (P : A0 → A1 → A2 → A3 → A4 → A5 → A6 → A7 → A8 → Prop) (h1 : XB T call h N bs a sl lo ob df (JoinW (fun v : A0 × A1 × A2 × A3 × A4 × A5 × A6 × A7 × A8 => f v.1 v.2.1 v.2.2.1 v.2.2.2.1 v.2.2.2.2.1 v.2.2.2.2.2.1 v.2.2.2.2.2.2.1 v.2.2.2.2.2.2.2.1 v.2.2.2.2.2.2.2.2) (fun v : A0 × A1 × A2 × A3 × A4 × A5 × A6 × A7 × A8 => g v.1 v.2.1 v.2.2.1 v.2.2.2.1 v.2.2.2.2.1 v.2.2.2.2.2.1 v.2.2.2.2.2.2.1 v.2.2.2.2.2.2.2.1 v.2.2.2.2.2.2.2.2) (fun v : A0 × A1 × A2 × A3 × A4 × A5 × A6 × A7 × A8 => o v.1 v.2.1 v.2.2.1 v.2.2.2.1 v.2.2.2.2.1 v.2.2.2.2.2.1 v.2.2.2.2.2.2.1 v.2.2.2.2.2.2.2.1 v.2.2.2.2.2.2.2.2) (fun v : A0 × A1 × A2 × A3 × A4 × A5 × A6 × A7 × A8 => P v.1 v.2.1 v.2.2.1 v.2.2.2.1 v.2.2.2.2.1 v.2.2.2.2.2.1 v.2.2.2.2.2.2.1 v.2.2.2.2.2.2.2.1 v.2.2.2.2.2.2.2.2) df' Q)) (h2 : ∀ (a0 : A0) (a1 : A1) (a2 : A2) (a3 : A3) (a4 : A4) (a5 : A5) (a6 : A6) (a7 : A7) (a8 : A8), P a0 a1 a2 a3 a4 a5 a6 a7 a8 → XB T call h N bs b (f a0 a1 a2 a3 a4 a5 a6 a7 a8) (g a0 a1 a2 a3 a4 a5 a6 a7 a8) (o a0 a1 a2 a3 a4 a5 a6 a7 a8) df' Q) : XB T call h N bs (.seq a b) sl lo ob df Q :=
  y_joinW (fun v : A0 × A1 × A2 × A3 × A4 × A5 × A6 × A7 × A8 => f v.1 v.2.1 v.2.2.1 v.2.2.2.1 v.2.2.2.2.1 v.2.2.2.2.2.1 v.2.2.2.2.2.2.1 v.2.2.2.2.2.2.2.1 v.2.2.2.2.2.2.2.2) (fun v : A0 × A1 × A2 × A3 × A4 × A5 × A6 × A7 × A8 => g v.1 v.2.1 v.2.2.1 v.2.2.2.1 v.2.2.2.2.1 v.2.2.2.2.2.1 v.2.2.2.2.2.2.1 v.2.2.2.2.2.2.2.1 v.2.2.2.2.2.2.2.2) (fun v : A0 × A1 × A2 × A3 × A4 × A5 × A6 × A7 × A8 => o v.1 v.2.1 v.2.2.1 v.2.2.2.1 v.2.2.2.2.1 v.2.2.2.2.2.1 v.2.2.2.2.2.2.1 v.2.2.2.2.2.2.2.1 v.2.2.2.2.2.2.2.2) (fun v : A0 × A1 × A2 × A3 × A4 × A5 × A6 × A7 × A8 => P v.1 v.2.1 v.2.2.1 v.2.2.2.1 v.2.2.2.2.1 v.2.2.2.2.2.1 v.2.2.2.2.2.2.1 v.2.2.2.2.2.2.2.1 v.2.2.2.2.2.2.2.2) h1 fun v hv => h2 v.1 v.2.1 v.2.2.1 v.2.2.2.1 v.2.2.2.2.1 v.2.2.2.2.2.1 v.2.2.2.2.2.2.1 v.2.2.2.2.2.2.2.1 v.2.2.2.2.2.2.2.2 hv
def lp10 {A0 A1 A2 A3 A4 A5 A6 A7 A8 A9 : Type} {τ β : Type} (body : A0 → A1 → A2 → A3 → A4 → A5 → A6 → A7 → A8 → A9 → Option ((A0 × A1 × A2 × A3 × A4 × A5 × A6 × A7 × A8 × A9) ⊕ (τ ⊕ β))) (a0 : A0) (a1 : A1) (a2 : A2) (a3 : A3) (a4 : A4) (a5 : A5) (a6 : A6) (a7 : A7) (a8 : A8) (a9 : A9) (K : τ → Option β) : Option β := lp (fun v : A0 × A1 × A2 × A3 × A4 × A5 × A6 × A7 × A8 × A9 => body v.1 v.2.1 v.2.2.1 v.2.2.2.1 v.2.2.2.2.1 v.2.2.2.2.2.1 v.2.2.2.2.2.2.1 v.2.2.2.2.2.2.2.1 v.2.2.2.2.2.2.2.2.1 v.2.2.2.2.2.2.2.2.2) (a0, a1, a2, a3, a4, a5, a6, a7, a8, a9) K
theorem y_lp10 {A0 A1 A2 A3 A4 A5 A6 A7 A8 A9 : Type} {τ β : Type} {body : A0 → A1 → A2 → A3 → A4 → A5 → A6 → A7 → A8 → A9 → Option ((A0 × A1 × A2 × A3 × A4 × A5 × A6 × A7 × A8 × A9) ⊕ (τ ⊕ β))} {a0 : A0} {a1 : A1} {a2 : A2} {a3 : A3} {a4 : A4} {a5 : A5} {a6 : A6} {a7 : A7} {a8 : A8} {a9 : A9} {K : τ → Option β} {y : β} (hl : lp10 body a0 a1 a2 a3 a4 a5 a6 a7 a8 a9 K = some y) (f : A0 → A1 → A2 → A3 → A4 → A5 → A6 → A7 → A8 → A9 → SL) (g o : A0 → A1 → A2 → A3 → A4 → A5 → A6 → A7 → A8 → A9 → LO) (h1 : SubW (f a0 a1 a2 a3 a4 a5 a6 a7 a8 a9) sl) (h2 : SubC' (g a0 a1 a2 a3 a4 a5 a6 a7 a8 a9) lo) (h3 : SubC' (o a0 a1 a2 a3 a4 a5 a6 a7 a8 a9) ob)
    (hb : ∀ (a0 : A0) (a1 : A1) (a2 : A2) (a3 : A3) (a4 : A4) (a5 : A5) (a6 : A6) (a7 : A7) (a8 : A8) (a9 : A9), ∀ w, body a0 a1 a2 a3 a4 a5 a6 a7 a8 a9 = some w → XB T call h N bs c (f a0 a1 a2 a3 a4 a5 a6 a7 a8 a9) (g a0 a1 a2 a3 a4 a5 a6 a7 a8 a9) (o a0 a1 a2 a3 a4 a5 a6 a7 a8 a9) df (RoundW (fun v : A0 × A1 × A2 × A3 × A4 × A5 × A6 × A7 × A8 × A9 => f v.1 v.2.1 v.2.2.1 v.2.2.2.1 v.2.2.2.2.1 v.2.2.2.2.2.1 v.2.2.2.2.2.2.1 v.2.2.2.2.2.2.2.1 v.2.2.2.2.2.2.2.2.1 v.2.2.2.2.2.2.2.2.2) (fun v : A0 × A1 × A2 × A3 × A4 × A5 × A6 × A7 × A8 × A9 => g v.1 v.2.1 v.2.2.1 v.2.2.2.1 v.2.2.2.2.1 v.2.2.2.2.2.1 v.2.2.2.2.2.2.1 v.2.2.2.2.2.2.2.1 v.2.2.2.2.2.2.2.2.1 v.2.2.2.2.2.2.2.2.2) (fun v : A0 × A1 × A2 × A3 × A4 × A5 × A6 × A7 × A8 × A9 => o v.1 v.2.1 v.2.2.1 v.2.2.2.1 v.2.2.2.2.1 v.2.2.2.2.2.1 v.2.2.2.2.2.2.1 v.2.2.2.2.2.2.2.1 v.2.2.2.2.2.2.2.2.1 v.2.2.2.2.2.2.2.2.2) df w (fun b x sl lo ob df => (match b with | .inl v => K v = some y | .inr z => z = y) → Q x sl lo ob df))) : XB T call h N bs (.loop c) sl lo ob df Q :=
  y_lp hl (fun v : A0 × A1 × A2 × A3 × A4 × A5 × A6 × A7 × A8 × A9 => f v.1 v.2.1 v.2.2.1 v.2.2.2.1 v.2.2.2.2.1 v.2.2.2.2.2.1 v.2.2.2.2.2.2.1 v.2.2.2.2.2.2.2.1 v.2.2.2.2.2.2.2.2.1 v.2.2.2.2.2.2.2.2.2) (fun v : A0 × A1 × A2 × A3 × A4 × A5 × A6 × A7 × A8 × A9 => g v.1 v.2.1 v.2.2.1 v.2.2.2.1 v.2.2.2.2.1 v.2.2.2.2.2.1 v.2.2.2.2.2.2.1 v.2.2.2.2.2.2.2.1 v.2.2.2.2.2.2.2.2.1 v.2.2.2.2.2.2.2.2.2) (fun v : A0 × A1 × A2 × A3 × A4 × A5 × A6 × A7 × A8 × A9 => o v.1 v.2.1 v.2.2.1 v.2.2.2.1 v.2.2.2.2.1 v.2.2.2.2.2.1 v.2.2.2.2.2.2.1 v.2.2.2.2.2.2.2.1 v.2.2.2.2.2.2.2.2.1 v.2.2.2.2.2.2.2.2.2) h1 h2 h3 fun v w hw => hb v.1 v.2.1 v.2.2.1 v.2.2.2.1 v.2.2.2.2.1 v.2.2.2.2.2.1 v.2.2.2.2.2.2.1 v.2.2.2.2.2.2.2.1 v.2.2.2.2.2.2.2.2.1 v.2.2.2.2.2.2.2.2.2 w hw
theorem y_join10 {A0 A1 A2 A3 A4 A5 A6 A7 A8 A9 : Type} (f : A0 → A1 → A2 → A3 → A4 → A5 → A6 → A7 → A8 → A9 → SL) (g o : A0 → A1 → A2 → A3 → A4 → A5 → A6 → A7 → A8 → A9 → LO) (P : A0 → A1 → A2 → A3 → A4 → A5 → A6 → A7 → A8 → A9 → Prop) (h1 : XB T call h N bs a sl lo ob df (JoinW (fun v : A0 × A1 × A2 × A3 × A4 × A5 × A6 × A7 × A8 × A9 => f v.1 v.2.1 v.2.2.1 v.2.2.2.1 v.2.2.2.2.1 v.2.2.2.2.2.1 v.2.2.2.2.2.2.1 v.2.2.2.2.2.2.2.1 v.2.2.2.2.2.2.2.2.1 v.2.2.2.2.2.2.2.2.2) (fun v : A0 × A1 × A2 × A3 × A4 × A5 × A6 × A7 × A8 × A9 => g v.1 v.2.1 v.2.2.1 v.2.2.2.1 v.2.2.2.2.1 v.2.2.2.2.2.1 v.2.2.2.2.2.2.1 v.2.2.2.2.2.2.2.1 v.2.2.2.2.2.2.2.2.1 v.2.2.2.2.2.2.2.2.2) (fun v : A0 × A1 × A2 × A3 × A4 × A5 × A6 × A7 × A8 × A9 => o v.1 v.2.1 v.2.2.1 v.2.2.2.1 v.2.2.2.2.1 v.2.2.2.2.2.1 v.2.2.2.2.2.2.1 v.2.2.2.2.2.2.2.1 v.2.2.2.2.2.2.2.2.1 v.2.2.2.2.2.2.2.2.2) (fun v : A0 × A1 × A2 × A3 × A4 × A5 × A6 × A7 × A8 × A9 => P v.1 v.2.1 v.2.2.1 v.2.2.2.1 v.2.2.2.2.1 v.2.2.2.2.2.1 v.2.2.2.2.2.2.1 v.2.2.2.2.2.2.2.1 v.2.2.2.2.2.2.2.2.1 v.2.2.2.2.2.2.2.2.2) df' Q)) (h2 : ∀ (a0 : A0) (a1 : A1) (a2 : A2) (a3 : A3) (a4 : A4) (a5 : A5) (a6 : A6) (a7 : A7) (a8 : A8) (a9 : A9), P a0 a1 a2 a3 a4 a5 a6 a7 a8 a9 → XB T call h N bs b (f a0 a1 a2 a3 a4 a5 a6 a7 a8 a9) (g a0 a1 a2 a3 a4 a5 a6 a7 a8 a9) (o a0 a1 a2 a3 a4 a5 a6 a7 a8 a9) df' Q) : XB T call h N bs (.seq a b) sl lo ob df Q :=
  y_joinW (fun v : A0 × A1 × A2 × A3 × A4 × A5 × A6 × A7 × A8 × A9 => f v.1 v.2.1 v.2.2.1 v.2.2.2.1 v.2.2.2.2.1 v.2.2.2.2.2.1 v.2.2.2.2.2.2.1 v.2.2.2.2.2.2.2.1 v.2.2.2.2.2.2.2.2.1 v.2.2.2.2.2.2.2.2.2) (fun v : A0 × A1 × A2 × A3 × A4 × A5 × A6 × A7 × A8 × A9 => g v.1 v.2.1 v.2.2.1 v.2.2.2.1 v.2.2.2.2.1 v.2.2.2.2.2.1 v.2.2.2.2.2.2.1 v.2.2.2.2.2.2.2.1 v.2.2.2.2.2.2.2.2.1 v.2.2.2.2.2.2.2.2.2) (fun v : A0 × A1 × A2 × A3 × A4 × A5 × A6 × A7 × A8 × A9 => o v.1 v.2.1 v.2.2.1 v.2.2.2.1 v.2.2.2.2.1 v.2.2.2.2.2.1 v.2.2.2.2.2.2.1 v.2.2.2.2.2.2.2.1 v.2.2.2.2.2.2.2.2.1 v.2.2.2.2.2.2.2.2.2) (fun v : A0 × A1 × A2 × A3 × A4 × A5 × A6 × A7 × A8 × A9 => P v.1 v.2.1 v.2.2.1 v.2.2.2.1 v.2.2.2.2.1 v.2.2.2.2.2.1 v.2.2.2.2.2.2.1 v.2.2.2.2.2.2.2.1 v.2.2.2.2.2.2.2.2.1 v.2.2.2.2.2.2.2.2.2) h1 fun v hv => h2 v.1 v.2.1 v.2.2.1 v.2.2.2.1 v.2.2.2.2.1 v.2.2.2.2.2.1 v.2.2.2.2.2.2.1 v.2.2.2.2.2.2.2.1 v.2.2.2.2.2.2.2.2.1 v.2.2.2.2.2.2.2.2.2 hv
end
section
variable {T : Nat → Option TI} {s : BS}
theorem pIdxS {x i : Operand} {t : Nat} {ti : TI} {k : IntKind} {n : Int} {l : List UInt8} {b : UInt8} (hx : s.val x = some (.str l)) (hi : s.val i = some (.int k n)) (hT : T t = some ti) (hk : ti.k = .str) (hg : idx l n = some b) : POpB T s (.index t x i) (.v (.int .u8 (b.toNat : Int))) := by
  refine ropB_sound (ZB := fun _ => none) (ty := 0) ?_
  unfold idx at hg
  split at hg
  · rename_i h0
    simp only [ropB, hT, hx, hi, hk, if_pos h0, hg]
  · cases hg
theorem pSliceS {x : Operand} {lo hi : Option Operand} {t : Nat} {ti : TI} {u w : Option BV} {a b : Int} {l l' : List UInt8} (hx : s.val x = some (.str l)) (hlo : s.opt lo = some u) (hhi : s.opt hi = some w) (hT : T t = some ti) (hk : ti.k = .str)
    (hu : (u = none ∧ a = 0) ∨ ∃ k, u = some (.int k a)) (hw : (w = none ∧ b = len l) ∨ ∃ k, w = some (.int k b)) (hg : sli l a b = some l') : POpB T s (.slice t x lo hi none) (.v (.str l')) := by
  refine ropB_sound (ZB := fun _ => none) (ty := 0) ?_
  unfold sli at hg
  split at hg
  · rename_i h0
    obtain ⟨h1, h2, h3⟩ := h0
    simp only [Option.some.injEq] at hg
    have e1 : boundB w l.length l.length = some b.toNat := by
      rcases hw with ⟨rfl, rfl⟩ | ⟨k, rfl⟩
      · simp [boundB, len]
      · simp only [boundB]; rw [if_pos ⟨by omega, h3⟩]
    have e2 : boundB u 0 b.toNat = some a.toNat := by
      rcases hu with ⟨rfl, rfl⟩ | ⟨k, rfl⟩
      · simp [boundB]
      · simp only [boundB]; rw [if_pos ⟨h1, by omega⟩]
    simp only [ropB, hx, hlo, hhi, sliceB, hT, hk, e1, e2]
    rw [← hg]
  · cases hg
end
end Go.Eng

/- ENGINE 50: objects, panics, slices held against nil. -/
set_option linter.unusedVariables false
set_option linter.unusedSimpArgs false
namespace Go.Eng
open Go

def okSl (U D : Nat) : SL → Bool
  | [] => true
  | (_, .v x) :: l => x.free U D && okSl U D l
  | _ :: l => okSl U D l
def okLo (U D : Nat) : LO → Bool
  | [] => true
  | (_, c) :: l => BV.free.frees U D c && okLo U D l
def okOb (U D : Nat) : LO → Bool
  | [] => true
  | (t, c) :: l => !D.testBit t && (BV.free.frees U D c && okOb U D l)
theorem frS_ok {U D : Nat} : ∀ {l : SL}, okSl U D l = true → frS U D l = l
  | [], _ => rfl
  | (t, .v x) :: l, h => by
    simp only [okSl, Bool.and_eq_true] at h
    simp only [frS, BSlot.fr, h.1, cond_true, frS_ok h.2]
  | (t, .lr u o) :: l, h => by simp only [frS, BSlot.fr, frS_ok (l := l) h]
  | (t, .none) :: l, h => by simp only [frS, BSlot.fr, frS_ok (l := l) h]
theorem frV_ok {U D : Nat} : ∀ {l : List BV}, BV.free.frees U D l = true → frV U D l = l
  | [], _ => rfl
  | v :: l, h => by
    simp only [BV.free.frees, Bool.and_eq_true] at h
    simp only [frV, BV.fr, h.1, cond_true, frV_ok h.2]
theorem frL_ok {U D : Nat} : ∀ {l : LO}, okLo U D l = true → frL U D l = l
  | [], _ => rfl
  | (t, c) :: l, h => by
    simp only [okLo, Bool.and_eq_true] at h
    simp only [frL, frV_ok h.1, frL_ok h.2]
theorem frO_ok {U D : Nat} : ∀ {l : LO}, okOb U D l = true → frO U D (fun _ => false) l = l
  | [], _ => rfl
  | (t, c) :: l, h => by
    simp only [okOb, Bool.and_eq_true, Bool.not_eq_true'] at h
    simp only [frO, h.1, Bool.or_self, cond_false, frV_ok h.2.1, frO_ok h.2.2]
section
variable {T : Nat → Option TI} {ZB : Nat → Option (List BV)} {call : CallF} {bx : List Nat} {ops : List Oper} {bs : Base} {pk : List Nat} {l : List (Oper × List Nat)} {o : Oper} {ws : List Nat} {sl env : SL} {lo lo' ob ob' df : LO} {Q : QN} {Qp : QP} {d : Nat} {v v' : BV}
theorem xb_newO {e : Nat} {ti : TI} (τ : Nat) (zs : List BV) (hw : wantB ops env o = some true) (ho : o.op = .alloc e) (hd : o.dst = some d) (hT : T e = some ti) (hz : zEq ti.zero zs = true) (hm : mem d bx = false) (hτ : (Nat.ble 1 τ && Nat.ble τ 62) = true) (hs : pkSs ops ⟨sl, env, lo, ob, df⟩ (fun _ => false) pk = true) (hn : pkNs ops o.dst pk = true) (hk : subN ws pk = true) (h0 : (okSl 0 (2 ^ τ) sl && okSl 0 (2 ^ τ) env && okLo 0 (2 ^ τ) lo && okOb 0 (2 ^ τ) ob && okLo 0 (2 ^ τ) df) = true)
    (h : XRB T call bx ops bs pk l ⟨sl, (d, .v (.ptr τ 0)) :: env, lo, (τ, zs) :: ob, df⟩ Q Qp) : XRB T call bx ops bs pk ((o, ws) :: l) ⟨sl, env, lo, ob, df⟩ Q Qp := by
  simp only [Bool.and_eq_true] at h0
  refine xb_allocO τ zs hw ho hd hT hz hm hτ hs hn hk ?_
  rw [frS_ok h0.1.1.1.1, frS_ok h0.1.1.1.2, frL_ok h0.1.1.2, frO_ok h0.1.2, frL_ok h0.2]
  exact h
theorem xb_newB {e : Nat} {ti : TI} {x : Operand} (τ : Nat) (hw : wantB ops env o = some true) (ho : o.op = .box e x) (hd : o.dst = some d) (hT : T e = some ti) (hv : BS.valT ZB ⟨sl, env, lo, ob, df⟩ e x = some v) (h1 : v.cells.all BV.one = true) (hf : BV.free.frees 0 (2 ^ τ) v.cells = true) (hm : mem d bx = false) (hτ : (Nat.ble 1 τ && Nat.ble τ 62) = true) (hs : pkSs ops ⟨sl, env, lo, ob, df⟩ (fun _ => false) pk = true) (hn : pkNs ops o.dst pk = true) (hk : subN ws pk = true) (h0 : (okSl 0 (2 ^ τ) sl && okSl 0 (2 ^ τ) env && okLo 0 (2 ^ τ) lo && okOb 0 (2 ^ τ) ob && okLo 0 (2 ^ τ) df) = true)
    (h : XRB T call bx ops bs pk l ⟨sl, (d, .v (.ptr τ 0)) :: env, lo, (τ, v.cells) :: ob, df⟩ Q Qp) : XRB T call bx ops bs pk ((o, ws) :: l) ⟨sl, env, lo, ob, df⟩ Q Qp := by
  simp only [Bool.and_eq_true] at h0
  refine xb_boxO τ hw ho hd hT hv h1 hf hm hτ hs hn hk ?_
  rw [frS_ok h0.1.1.1.1, frS_ok h0.1.1.1.2, frL_ok h0.1.1.2, frO_ok h0.1.2, frL_ok h0.2]
  exact h
/-- What is known, given in another form. -/
theorem xb_re (h1 : v = v') (h2 : lo = lo') (h3 : ob = ob') (h : XRB T call bx ops bs pk l ⟨sl, (d, .v v') :: env, lo', ob', df⟩ Q Qp) : XRB T call bx ops bs pk l ⟨sl, (d, .v v) :: env, lo, ob, df⟩ Q Qp := by
  subst h1 h2 h3; exact h
theorem xb_relo (lo' ob' : LO) (h2 : lo = lo') (h3 : ob = ob') (h : XRB T call bx ops bs pk l ⟨sl, env, lo', ob', df⟩ Q Qp) : XRB T call bx ops bs pk l ⟨sl, env, lo, ob, df⟩ Q Qp := by
  subst h2 h3; exact h
/-- What is known of variables and objects, seen with less known. -/
theorem xb_view (h2 : SubC' lo' lo) (h3 : SubC' ob' ob) (h : XRB T call bx ops bs pk l ⟨sl, env, lo', ob', df⟩ Q Qp) : XRB T call bx ops bs pk l ⟨sl, env, lo, ob, df⟩ Q Qp := fun G r hr hc hp =>
  h G r ⟨hr.env, hr.sl, fun u d hd => by
    obtain ⟨x, x1, x2⟩ := h2 u d hd
    obtain ⟨z, z1, z2⟩ := hr.lo u x x1
    exact ⟨z, z1, VBs.wk z2 x2⟩, fun t c hc => by
    obtain ⟨x, x1, x2⟩ := h3 t c hc
    exact ObR.wk (hr.ob t x x1) x2, hr.df⟩ hc hp
/-- Is a slice nil? Where it is, it is empty; no more is known. -/
theorem xb_isnil {t t2 : Nat} {ti : TI} {x : Operand} {u : Value} {e sz' bytes sz own m : Nat} {ez : List AV} {es : List (List BV)} (hw : wantB ops env o = some true) (ho : o.op = .binOp .eql t x (.const u) t2) (hu : ofV u = some .nils) (hd : o.dst = some d) (hT : T t = some ti) (hkk : ti.k = .sl e sz' bytes ez) (hx : BS.val ⟨sl, env, lo, ob, df⟩ x = some (.ls es sz own m)) (hn : pkNs ops o.dst pk = true) (hk : ws = [])
    (h : ∀ p : Bool, (p = true → es = []) → XRB T call bx ops bs pk l ⟨sl, (d, .v (.bool p)) :: env, lo, ob, df⟩ Q Qp) : XRB T call bx ops bs pk ((o, ws) :: l) ⟨sl, env, lo, ob, df⟩ Q Qp := by
  subst hk
  intro G r hr hc hp
  obtain ⟨a, a1, a2⟩ := hr.val hx
  obtain ⟨p, hp1, hp2⟩ : ∃ p : Bool, AV.nilq ti.k a = some p ∧ (p = true → es = []) := by
    cases a2 with
    | sc hs => have := toA_iff.2 hs; cases this
    | lsN => exact ⟨true, by rw [hkk]; rfl, fun _ => rfl⟩
    | lsA ha hk hq hm ho hl hs hp hr => exact ⟨false, by rw [hkk]; rfl, fun h => by cases h⟩
    | lsO hm hl hs1 hs hr => exact ⟨false, by rw [hkk]; rfl, fun h => by cases h⟩
  have hb : rop T r o.op = some (.v (.bool p)) := by
    have hc2 : r.val (.const u) = some .nils := by simp only [RS.val, RS.slot, hu, Option.map_some]
    have hn2 : AV.nilq ti.k .nils = some true := by rw [hkk]; rfl
    simp only [ho, rop, rBin, a1, hc2]
    rw [nilq_binF hp1]
    simp only [binN, hT, eqn, hp1, hn2]
    cases p with
    | true => rw [hkk]; rfl
    | false => rfl
  have ho' : oop T call bx o r none = some (.ok (r.put o.dst (.v (.bool p))) none) := oop_rop rfl (by rw [ho]; rfl) hb
  simp only [runOps, wantB_sound hr hw, ho', Eng.reck, if_true]
  have hp' := pk_put (x := .v (.bool p)) hn hp
  rw [hd] at hp' ⊢
  exact h p hp2 G _ (hr.put (.v (.sc rfl)) d) hc hp'
end
end Go.Eng

/- ENGINE 51: deferred functions, and what recovers, over values of the second kind. -/
set_option linter.unusedVariables false
set_option linter.unusedSimpArgs false
namespace Go.Eng
open Go

/-- How the frame that leaves stands. -/
inductive BM where
  | ret
  | pan (v : BV)
  | recd
inductive CMr (G : Gh) (h : Hp) : CM → BM → Prop
  | ret : CMr G h .ret .ret
  | pan {a b} (hv : VB G h a b) : CMr G h (.pan a) (.pan b)
  | recd : CMr G h .recd .recd
def BM.free (U D : Nat) : BM → Bool
  | .pan v => v.free U D
  | _ => true
/-- Objects alone change. -/
def PO (t : Nat) : Bool := Nat.ble 1000 t
abbrev QNS := SL → SL → LO → LO → LO → BM → Prop
def XRS (T : Nat → Option TI) (call : CallF) (bx : List Nat) (ops : List Oper) (bs : Base) (l : List (Oper × List Nat)) (s : BS) (m : BM) (Q : QNS) : Prop :=
  ∀ G r cm, RepB G s r → Cg bs G r.hp → CMr G r.hp cm m → ∃ r' cm', runOps T call bx ops l r (some cm) = some (.ok r' (some cm')) ∧ ∃ s' m', RepB G s' r' ∧ Cg bs G r'.hp ∧ CMr G r'.hp cm' m' ∧ Go1 PO G.om G.om r.hp r'.hp ∧ Q s'.sl s'.env s'.lo s'.ob s'.df m'
section
variable {T : Nat → Option TI} {ZB : Nat → Option (List BV)} {call : CallF} {bx : List Nat} {ops : List Oper} {bs : Base} {l l' : List (Oper × List Nat)} {o : Oper} {sl env env' : SL} {lo lo' ob ob' df : LO} {Q : QNS} {d : Nat} {v : BV} {y : BSlot} {m : BM}
theorem xs'_end (h : Q sl env lo ob df m) : XRS T call bx ops bs [] ⟨sl, env, lo, ob, df⟩ m Q := fun G r cm hr hc hm => ⟨r, cm, rfl, _, m, hr, hc, hm, .refl _ _ _, h⟩
theorem xs'_pure (hw : wantB ops env o = some true) (hp1 : POpB T ⟨sl, env, lo, ob, df⟩ o.op y) (hi : isRop o.op = true) (hd : o.dst = some d) (h : XRS T call bx ops bs l ⟨sl, (d, y) :: env, lo, ob, df⟩ m Q) : XRS T call bx ops bs ((o, []) :: l) ⟨sl, env, lo, ob, df⟩ m Q := by
  intro G r cm hr hc hm
  obtain ⟨x, h1, h2⟩ := hp1 G r hr
  have := oop_some (c := cm) (oop_rop (o := o) (bx := bx) (call := call) rfl hi h1)
  simp only [runOps, wantB_sound hr hw, this, Eng.reck, if_true, hd]
  exact h G _ cm (hr.put h2 d) hc hm
theorem xs'_skip (hw : wantB ops env o = some false) (hd : o.dst = some d) (h : XRS T call bx ops bs l ⟨sl, (d, .v (.tup [])) :: env, lo, ob, df⟩ m Q) : XRS T call bx ops bs ((o, []) :: l) ⟨sl, env, lo, ob, df⟩ m Q := by
  intro G r cm hr hc hm
  simp only [runOps, wantB_sound hr hw, hd]
  exact h G _ cm (hr.put (x := .v undefA) (.v (.tup rfl fun i x y hx => by simp at hx)) d) hc hm
theorem xs'_run : ∀ (ZB : Nat → Option (List BV)) (n : Nat) {l l' : List (Oper × List Nat)} {env env' : SL}, runB T ZB ops [] sl lo ob df n l env = some env' → l.drop n = l' → XRS T call bx ops bs l' ⟨sl, env', lo, ob, df⟩ m Q → XRS T call bx ops bs l ⟨sl, env, lo, ob, df⟩ m Q
  | ZB, 0, l, l', env, env', h, hl, hx => by
    simp only [runB, Option.some.injEq] at h
    simp only [List.drop_zero] at hl
    subst h; subst hl; exact hx
  | ZB, n + 1, [], l', env, env', h, hl, hx => by simp [runB] at h
  | ZB, n + 1, (o, []) :: l, l', env, env', h, hl, hx => by
    simp only [runB] at h
    split at h
    · rename_i d hg hd hi
      simp only [pkNs, cond_true] at h
      split at h
      · rename_i y hy
        exact xs'_pure hg (ropB_sound hy) hi hd (xs'_run ZB n h hl hx)
      · cases h
    · rename_i d hg hd
      simp only [pkNs, cond_true] at h
      exact xs'_skip hg hd (xs'_run ZB n h hl hx)
    · cases h
  | ZB, n + 1, (o, w :: ws) :: l, l', env, env', h, hl, hx => by simp [runB] at h
theorem CMr.put {G : Gh} {h h' : Hp} {P : Nat → Bool} {cm : CM} (g : Go1 P G.om G.om h h') (hP : ∀ t, t < 1000 → P t = false) (hm : CMr G h cm m) : CMr G h' cm m := by
  cases hm with
  | ret => exact .ret
  | pan hv => exact .pan (hv.keep0 g hP fun _ _ h => h)
  | recd => exact .recd
theorem xs'_storeO {t τ off : Nat} {a x : Operand} {ti : TI} {c c' : List BV} (hw : wantB ops env o = some true) (ho : o.op = .store t a x) (hd : o.dst = none) (hT : T t = some ti) (ha : BS.slot ⟨sl, env, lo, ob, df⟩ a = some (.v (.ptr τ off))) (hv : BS.valT ZB ⟨sl, env, lo, ob, df⟩ t x = some v)
    (h1 : (Nat.beq v.cells.length ti.size && v.cells.all BV.one) = true) (hl : lkp ob τ = some c) (hwr : wrG c off v.cells = some c') (hP : loc (1000 + τ) = true ∨ bs.P (1000 + τ) = true)
    (h : XRS T call bx ops bs l ⟨sl, env, lo, setp ob τ c', df⟩ m Q) (hlt : Nat.blt τ 128 = true := by rfl) : XRS T call bx ops bs ((o, []) :: l) ⟨sl, env, lo, ob, df⟩ m Q := by
  intro G r cm hr hc hm
  obtain ⟨b, b1, b2⟩ := hr.valT hv
  simp only [Bool.and_eq_true] at h1
  obtain ⟨c1, c2⟩ := b2.cells h1.2
  obtain ⟨w, w1, w2⟩ := hr.slot ha
  cases w2 with
  | v hv2 =>
    obtain ⟨a0, b0, rfl, hpi⟩ := hv2.ptr_inv
    obtain ⟨k, ca, q1, q2, q3, q4⟩ := hr.setob hl c1 hwr hpi hlt
    have hall : (Nat.beq b.cells.length ti.size && b.cells.all AV.one) = true := by rw [c1.1, h1.1, c2]; rfl
    have ho' : oop T call bx o r (some cm) = some (.ok { r with hp := r.hp.put a0 ⟨k.ty, ca⟩ } (some cm)) := by simp only [oop, ho, oStore, hT, w1, b1, hall, cond_true, RS.wrt, q1, wr_eq, q2, Option.map_some, hd, RS.put]
    simp only [runOps, wantB_sound hr hw, ho', Eng.reck, if_true]
    have q3' : Go1 PO G.om G.om r.hp (r.hp.put a0 ⟨k.ty, ca⟩) := q3.imp fun a _ hq => by
      have := Nat.eq_of_beq_eq_true hq
      unfold PO; rw [Nat.ble_eq]; omega
    have hcc : Cg bs G (r.hp.put a0 ⟨k.ty, ca⟩) := hc.step q3 (fun a ha hq => by
      have he := Nat.eq_of_beq_eq_true hq
      rcases hP with hP | hP
      · exact (hc.young hP ha he).elim
      · rw [he]; exact hP) (fun _ _ => rfl)
    obtain ⟨r', cm', e1, s', m', e2, e3, e4, e5, e6⟩ := h G _ cm q4 hcc (hm.put q3 fun t ht => beq_ne (by omega))
    exact ⟨r', cm', e1, s', m', e2, e3, e4, q3'.trans e5, e6⟩
theorem xs'_recP {args : Array Operand} {ts : Array Nat} (hw : wantB ops env o = some true) (ho : o.op = .call ⟨.builtin .recover, args, ts⟩) (hd : o.dst = some d) (h : XRS T call bx ops bs l ⟨sl, (d, .v v) :: env, lo, ob, df⟩ .recd Q) : XRS T call bx ops bs ((o, []) :: l) ⟨sl, env, lo, ob, df⟩ (.pan v) Q := by
  intro G r cm hr hc hm
  cases hm with
  | @pan a _ hv =>
    simp only [runOps, wantB_sound hr hw, oop, ho, oCall, oBuiltin, oRecover, Eng.reck, if_true, hd]
    exact h G _ .recd (hr.put (.v hv) d) hc .recd
theorem xs'_recN {args : Array Operand} {ts : Array Nat} (hw : wantB ops env o = some true) (ho : o.op = .call ⟨.builtin .recover, args, ts⟩) (hd : o.dst = some d) (h : XRS T call bx ops bs l ⟨sl, (d, .v .nilif) :: env, lo, ob, df⟩ .ret Q) : XRS T call bx ops bs ((o, []) :: l) ⟨sl, env, lo, ob, df⟩ .ret Q := by
  intro G r cm hr hc hm
  cases hm
  simp only [runOps, wantB_sound hr hw, oop, ho, oCall, oBuiltin, oRecover, Eng.reck, if_true, hd]
  exact h G _ .ret (hr.put (.v (.sc rfl)) d) hc .ret
end
abbrev QBS := BX → SL → LO → LO → LO → BM → Prop
def XSB (T : Nat → Option TI) (call : CallF) (h : FH) (N : Nat) (bs : Base) (c : Code) (sl : SL) (lo ob df : LO) (m : BM) (Q : QBS) : Prop :=
  ∀ G st cm, RepBS G N ⟨sl, [], lo, ob, df⟩ st → Cg bs G st.hp → CMr G st.hp cm m → ∃ e st' cm', execSL T call h c st cm = some (e, st', cm') ∧ ∃ x sl' lo' ob' df' m', RepBS G N ⟨sl', [], lo', ob', df'⟩ st' ∧ Cg bs G st'.hp ∧ BXr G st'.hp e x ∧ CMr G st'.hp cm' m' ∧ Go1 PO G.om G.om st.hp st'.hp ∧ Q x sl' lo' ob' df' m'
def ThenS' (T : Nat → Option TI) (call : CallF) (h : FH) (N : Nat) (bs : Base) (b : Code) (Q : QBS) : QBS
  | .normal, sl, lo, ob, df, m => XSB T call h N bs b sl lo ob df m Q
  | x, sl, lo, ob, df, m => Q x sl lo ob df m
section
variable {T : Nat → Option TI} {call : CallF} {h : FH} {N : Nat} {bs : Base} {sl sl' : SL} {lo ob df : LO} {m : BM} {Q : QBS} {a b c : Code}
theorem z_seq (hx : XSB T call h N bs a sl lo ob df m (ThenS' T call h N bs b Q)) : XSB T call h N bs (.seq a b) sl lo ob df m Q := by
  intro G st cm hst hc hm
  obtain ⟨e, st1, c1, h1, x, sl', lo', ob', df', m', h2, h3, h4, h5, hg, h6⟩ := hx G st cm hst hc hm
  simp only [execSL, h1]
  cases h4 with
  | normal =>
    obtain ⟨e, st2, c2, k1, x, sl', lo', ob', df', m', k2, k3, k4, k5, kg, k6⟩ := h6 G st1 c1 h2 h3 h5
    exact ⟨e, st2, c2, k1, x, sl', lo', ob', df', m', k2, k3, k4, k5, hg.trans kg, k6⟩
  | exit => exact ⟨_, _, _, rfl, _, sl', lo', ob', df', m', h2, h3, .exit, h5, hg, h6⟩
  | ret => exact ⟨_, _, _, rfl, _, sl', lo', ob', df', m', h2, h3, .ret, h5, hg, h6⟩
  | panic hv => exact ⟨_, _, _, rfl, _, sl', lo', ob', df', m', h2, h3, .panic hv, h5, hg, h6⟩
theorem z_cond {x : Operand} {p : Bool} (hc : BS.slot ⟨sl, [], lo, ob, df⟩ x = some (.v (.bool p))) (ha : p = true → XSB T call h N bs a sl lo ob df m Q) (hb : p = false → XSB T call h N bs b sl lo ob df m Q) : XSB T call h N bs (.cond x a b) sl lo ob df m Q := by
  intro G st cm hst hcg hm
  simp only [execSL, hst.slot hc]
  cases p with
  | true => exact ha rfl G st cm hst hcg hm
  | false => exact hb rfl G st cm hst hcg hm
theorem z_skip (hq : Q .normal sl lo ob df m) : XSB T call h N bs .skip sl lo ob df m Q := fun G st cm hst hc hm => ⟨_, _, _, rfl, .normal, sl, lo, ob, df, m, hst, hc, .normal, hm, .refl _ _ _, hq⟩
theorem z_ret (hq : Q .ret sl lo ob df m) : XSB T call h N bs .ret sl lo ob df m Q := fun G st cm hst hc hm => ⟨_, _, _, rfl, .ret, sl, lo, ob, df, m, hst, hc, .ret, hm, .refl _ _ _, hq⟩
theorem z_nf (hx : XSB T call h N bs c sl' lo ob df m Q) (hn : NFB sl sl' := by repeat (first | exact NFB.nil rfl | apply NFB.v rfl | apply NFB.lr rfl | apply NFB.no rfl)) : XSB T call h N bs c sl lo ob df m Q := by rw [hn.eq]; exact hx
theorem z_region {id : Nat} {ops : Array Oper} (hN : (h.rh id).out.all (fun t => Nat.blt t N) = true)
    (hx : XRS T call h.bx ops.toList bs (ops.toList.map fun o => (o, [])) ⟨sl, [], lo, ob, df⟩ m (fun sl env lo ob df m => Q .normal (outsB env (h.rh id).out sl) lo ob df m)) : XSB T call h N bs (.region id ops false) sl lo ob df m Q := by
  intro G st cm hst hc hm
  have hr : RepB G ⟨sl, [], lo, ob, df⟩ ⟨st.sl, [], st.lo, st.hp, st.df⟩ := ⟨.nil, hst.sl, hst.lo, hst.ob, hst.df⟩
  obtain ⟨r', cm', h1, s', m', hr', hc', hm', hg, hq⟩ := hx G _ cm hr hc hm
  have e : r'.sl = st.sl := runOps_sl h1 rfl
  have hb : ∀ t ∈ (h.rh id).out, t < st.sl.length := by
    intro t ht
    rw [List.all_eq_true] at hN
    exact Nat.lt_of_lt_of_le (Nat.le_of_ble_eq_true (hN t ht)) hst.len
  refine ⟨.normal, ⟨setOut r'.env (h.rh id).out st.sl, r'.lo, r'.hp, r'.df⟩, cm', by simp only [execSL, runRegion, Bool.false_eq_true, if_false, h1],   .normal, _, _, _, _, m', ?_, hc', .normal, hm', hg, hq⟩
  exact ⟨by simp only [setOut_len]; exact hst.len, outsB_spec hr'.env _ _ _ hb (by rw [← e]; exact hr'.sl), hr'.lo, hr'.ob, hr'.df⟩
end
/-! #### The way out -/
def BM.fin : BM → BM
  | .recd => .ret
  | c => c
theorem CMr.fin {G : Gh} {h : Hp} {cm : CM} {m : BM} (q : CMr G h cm m) : CMr G h cm.fin m.fin := by
  cases q with
  | ret => exact .ret
  | pan hv => exact .pan hv
  | recd => exact .ret
def LvB (T : Nat → Option TI) (F : Nat → Option Func) (H : Nat → FH) (N : Nat) (fn : Func) (bs : Base) (Φ : RB → LO → Prop) (sl : SL) (lo : LO) : LO → BM → LO → Prop
  | [], m, ob => match m with
    | .pan v => ∃ (obr : LO) (M : Nat), Has obr ob ∧ Φ (.pan (finV M v)) (finOs obr)
    | _ => ∃ (l l' : List BV) (obr : LO) (M : Nat), resB T ⟨sl, [], lo, ob, []⟩ fn.results.toList = some l ∧ WkL l l' ∧ Has obr ob ∧ Φ (.ret (finV M (oneB l'))) (finOs obr)
  | (f, args) :: ds, m, ob => ∃ gn c, F f = some gn ∧ Nat.beq args.length (arity gn) = true ∧ gn.body = some c ∧ Nat.ble args.length gn.ntmps = true ∧
      XSB T (evalL T F H) (H f) gn.ntmps bs c (initB 0 args) [] ob [] m (fun x sl2 lo2 ob2 df2 m2 => endBX x = true ∧ df2 = [] ∧ (∃ l, resB T ⟨sl2, [], lo2, ob2, []⟩ gn.results.toList = some l) ∧ LvB T F H N fn bs Φ sl lo ds m2.fin ob2)
section
variable {T : Nat → Option TI} {F : Nat → Option Func} {H : Nat → FH} {N : Nat} {fn : Func} {bs : Base} {Φ : RB → LO → Prop} {sl : SL} {lo ob df : LO} {G : Gh}
theorem resV_df {sl : List Slot} {lo : List (Nat × List AV)} {hp : Hp} {d1 d2 : List (Nat × List AV)} : ∀ rs : List ResultVar, resV T ⟨sl, lo, hp, d1⟩ rs = resV T ⟨sl, lo, hp, d2⟩ rs
  | [] => rfl
  | .tmp t :: rs => by simp only [resV, resV_df (d1 := d1) (d2 := d2) rs]
  | .cell a t :: rs => by
    simp only [resV, resV_df (d1 := d1) (d2 := d2) rs]
    split
    · rename_i ti x _ _
      have : RS.rd ⟨sl, [], lo, hp, d1⟩ x ti.size = RS.rd ⟨sl, [], lo, hp, d2⟩ x ti.size := by cases x <;> rfl
      rw [this]
    · rfl
theorem RepBS.hp {st : St} {h0 h' : Hp} {ob' : LO} (hst : RepBS G N ⟨sl, [], lo, ob, []⟩ ⟨st.sl, st.lo, h0, []⟩) (g : Go1 PO G.om G.om h0 h') (ho : ∀ t c, lkp ob' t = some c → ObR G h' t c) : RepBS G N ⟨sl, [], lo, ob', []⟩ ⟨st.sl, st.lo, h', []⟩ := by
  have hP : ∀ t, t < 1000 → PO t = false := fun t ht => by
    cases hb : PO t with
    | false => rfl
    | true => unfold PO at hb; rw [Nat.ble_eq] at hb; omega
  refine ⟨hst.len, fun t y hy => ?_, fun u c hc => ?_, ho, .nil⟩
  · obtain ⟨x, x1, x2⟩ := hst.sl t y hy
    refine ⟨x, x1, ?_⟩
    cases x2 with
    | v hv => exact .v (hv.keep0 g hP fun _ _ h => h)
    | lr => exact .lr
    | nv => exact .nv
    | nn => exact .nn
  · obtain ⟨x, x1, x2⟩ := hst.lo u c hc
    exact ⟨x, x1, x2.imp fun _ _ _ v => v.keep0 g hP fun _ _ h => h⟩
theorem lv_leaveB {st : St} : ∀ (ds : LO) (dA : List (Nat × List AV)) (m : BM) (cm : CM) (ob : LO) (hp : Hp), L2 (fun x y => x.1 = y.1 ∧ VBs G hp x.2 y.2) dA ds → RepBS G N ⟨sl, [], lo, ob, []⟩ ⟨st.sl, st.lo, hp, []⟩ → Cg bs G hp → CMr G hp cm m → LvB T F H N fn bs Φ sl lo ds m ob →
    ∃ rA hp', leave T (callDL T F H (evalL T F H)) fn st dA cm hp = some (rA, hp') ∧ ∃ G' r ob', Cg bs G' hp' ∧ RBr G' hp' rA r ∧ (∀ p ∈ ob', ObR G' hp' p.1 p.2) ∧ Φ r ob'
  | [], dA, m, cm, ob, hp, hd, hst, hc, hm, hl => by
    rw [hd.nil_r]
    have fin : ∀ (rA : Res) (rb : RB) (obr : LO), RBr G.rt hp rA rb → Has obr ob → Φ rb (finOs obr) → ∃ G' r ob', Cg bs G' hp ∧ RBr G' hp rA r ∧ (∀ p ∈ ob', ObR G' hp p.1 p.2) ∧ Φ r ob' := fun rA rb obr h1 h2 h3 =>
      ⟨G.rt, rb, finOs obr, hc.rt, h1, fun p hp => by
        obtain ⟨c, ⟨q1, q4⟩, q2⟩ := finOs_mem hp
        rw [q2]
        exact (hst.ob _ _ (h2 _ q1)).finO q4, h3⟩
    have ret : (∃ (l l' : List BV) (obr : LO) (M : Nat), resB T ⟨sl, [], lo, ob, []⟩ fn.results.toList = some l ∧ WkL l l' ∧ Has obr ob ∧ Φ (.ret (finV M (oneB l'))) (finOs obr)) → ∃ rA hp', (match resV T { st with hp := hp } fn.results.toList with
      | some [v] => some (Res.ret v, hp)
      | some l => some (.ret (.tup l), hp)
      | none => none) = some (rA, hp') ∧ ∃ G' r ob', Cg bs G' hp' ∧ RBr G' hp' rA r ∧ (∀ p ∈ ob', ObR G' hp' p.1 p.2) ∧ Φ r ob' := by
      rintro ⟨l, l', obr, M, h1, hw, h2, h3⟩
      obtain ⟨v, m1, m2⟩ := resB_sound hst h1
      have e : resV T { st with hp := hp } fn.results.toList = some v := by rw [← m1]; exact resV_df _
      have hv : VB G hp (oneR v) (oneB l') := VBs.one (VBs.wkL m2 hw)
      refine ⟨.ret (oneR v), hp, ?_, fin (.ret (oneR v)) (.ret (finV M (oneB l'))) obr (hv.fin M) h2 h3⟩
      rw [e]
      cases v with
      | nil => rfl
      | cons x l => cases l <;> rfl
    cases hm with
    | ret => exact ret hl
    | recd => exact ret hl
    | @pan a b hv =>
      obtain ⟨obr, M, h2, h3⟩ := hl
      exact ⟨.panic a, hp, rfl, fin (.panic a) (.pan (finV M b)) obr (hv.fin M) h2 h3⟩
  | (f, args) :: ds, dA, m, cm, ob, hp, hd, hst, hc, hm, hl => by
    obtain ⟨⟨f', as⟩, dA, rfl, ⟨h1, h2⟩, h3⟩ := hd.cons_r
    simp only at h1 h2
    subst h1
    obtain ⟨gn, c, k1, k2, k3, k4, hx⟩ := hl
    have hst0 : RepBS G gn.ntmps ⟨initB 0 args, [], [], ob, []⟩ (st0 gn as hp) := by
      refine ⟨?_, fun t y hy => ?_, fun u c hc => by simp [lkp] at hc, hst.ob, .nil⟩
      · simp only [st0, List.length_append, List.length_map, List.length_replicate]
        omega
      · obtain ⟨i, a, rfl, q2, rfl⟩ := initB_lk args 0 t y hy
        obtain ⟨x, x1, x2⟩ := h2.get q2
        refine ⟨.v x, ?_, .v x2⟩
        simp only [st0, Nat.zero_add]
        rw [List.getElem?_append_left (by simp; exact (List.getElem?_eq_some_iff.1 x1).1)]
        simp [x1]
    obtain ⟨e, st', cm', q1, x, sl', lo', ob', df', m', q2, q3, q4, q5, qg, he, rfl, ⟨l, hl2⟩, hlv⟩ := hx G (st0 gn as hp) cm hst0 hc hm
    have e2 : st'.df = [] := q2.df.nil_r
    obtain ⟨mv, m1, m2⟩ := resB_sound q2 hl2
    have hcd : callDL T F H (evalL T F H) f' as cm hp = some (cm', st'.hp) := by
      have hal : Nat.beq as.length (arity gn) = true := by rw [h2.1]; exact k2
      cases q4 with
      | normal => simp only [callDL, k1, hal, Bool.not_true, cond_false, k3, q1, e2, List.isEmpty_nil, if_true, m1]
      | ret => simp only [callDL, k1, hal, Bool.not_true, cond_false, k3, q1, e2, List.isEmpty_nil, if_true, m1]
      | exit => cases he
      | panic => cases he
    have hP : ∀ t, t < 1000 → PO t = false := fun t ht => by
      cases hb : PO t with
      | false => rfl
      | true => unfold PO at hb; rw [Nat.ble_eq] at hb; omega
    have hg' : Go1 PO G.om G.om hp st'.hp := qg
    have hst' : RepBS G N ⟨sl, [], lo, ob', []⟩ ⟨st.sl, st.lo, st'.hp, []⟩ := RepBS.hp hst hg' q2.ob
    obtain ⟨rA, hp', r1, r2⟩ := lv_leaveB ds dA m'.fin _ ob' st'.hp (h3.imp fun x y _ hh => ⟨hh.1, hh.2.imp fun _ _ _ v => v.keep0 hg' hP fun _ _ h => h⟩) hst' q3 q5.fin hlv
    exact ⟨rA, hp', by simp only [leave, hcd]; exact r1, r2⟩
def bmOf : BX → Option BM
  | .normal | .ret => some .ret
  | .panic v => some (.pan v)
  | .exit _ => none
theorem ends_lvB {x : BX} {m : BM} (he : bmOf x = some m) (hl : LvB T F H N fn bs Φ sl lo df m ob) : EndsB T F H N fn bs Φ x sl lo ob df := by
  intro G st e hst hc hx
  have hst' : RepBS G N ⟨sl, [], lo, ob, []⟩ ⟨st.sl, st.lo, st.hp, []⟩ := ⟨hst.len, hst.sl, hst.lo, hst.ob, .nil⟩
  cases hx with
  | normal => simp only [bmOf, Option.some.injEq] at he; subst he; exact ⟨.ret, rfl, lv_leaveB df st.df .ret .ret ob st.hp hst.df hst' hc .ret hl⟩
  | ret => simp only [bmOf, Option.some.injEq] at he; subst he; exact ⟨.ret, rfl, lv_leaveB df st.df .ret .ret ob st.hp hst.df hst' hc .ret hl⟩
  | exit => cases he
  | @panic a b hv => simp only [bmOf, Option.some.injEq] at he; subst he; exact ⟨.pan a, rfl, lv_leaveB df st.df (.pan b) (.pan a) ob st.hp hst.df hst' hc (.pan hv) hl⟩
end
section
variable {T : Nat → Option TI} {F : Nat → Option Func} {H : Nat → FH} {N : Nat} {fn : Func} {bs : Base} {Φ : RB → LO → Prop} {sl : SL} {lo ob df : LO} {m : BM}
theorem lv_cons {f : Nat} {args : List BV} {gn : Func} {c : Code} (h1 : F f = some gn) (h2 : Nat.beq args.length (arity gn) = true) (h3 : gn.body = some c) (h4 : Nat.ble args.length gn.ntmps = true)
    (hx : XSB T (evalL T F H) (H f) gn.ntmps bs c (initB 0 args) [] ob [] m (fun x sl2 lo2 ob2 df2 m2 => endBX x = true ∧ df2 = [] ∧ (∃ l, resB T ⟨sl2, [], lo2, ob2, []⟩ gn.results.toList = some l) ∧ LvB T F H N fn bs Φ sl lo df m2.fin ob2)) : LvB T F H N fn bs Φ sl lo ((f, args) :: df) m ob := ⟨gn, c, h1, h2, h3, h4, hx⟩
theorem lv_ret {l : List BV} {obr : LO} (M : Nat) (h1 : resB T ⟨sl, [], lo, ob, []⟩ fn.results.toList = some l) (h2 : Has obr ob) (h3 : Φ (.ret (finV M (oneB l))) (finOs obr)) : LvB T F H N fn bs Φ sl lo [] .ret ob := ⟨l, l, obr, M, h1, WkL.refl, h2, h3⟩
theorem lv_retW {l l' : List BV} {obr : LO} (M : Nat) (h1 : resB T ⟨sl, [], lo, ob, []⟩ fn.results.toList = some l) (hw : WkL l l') (h2 : Has obr ob) (h3 : Φ (.ret (finV M (oneB l'))) (finOs obr)) : LvB T F H N fn bs Φ sl lo [] .ret ob := ⟨l, l', obr, M, h1, hw, h2, h3⟩
theorem lv_pan {v : BV} {obr : LO} (M : Nat) (h2 : Has obr ob) (h3 : Φ (.pan (finV M v)) (finOs obr)) : LvB T F H N fn bs Φ sl lo [] (.pan v) ob := ⟨obr, M, h2, h3⟩
end
/-- Answers of functions that may panic with a number. -/
inductive Pr (α : Type) where
  | ret (a : α)
  | pan (e : Int)
def prE {α β : Type} (r : Pr α) (k : α → β) (p : Int → β) : β := match r with | .ret a => k a | .pan e => p e
theorem prR {α β : Type} {a : α} {k : α → β} {p : Int → β} {y : β} (h : prE (.ret a) k p = y) : k a = y := h
theorem prP {α β : Type} {e : Int} {k : α → β} {p : Int → β} {y : β} (h : prE (.pan e) k p = y) : p e = y := h
theorem SubW.refl {l : SL} : SubW l l := fun t y h => ⟨y, h, .refl⟩
theorem SubC'.refl {l : LO} : SubC' l l := fun t y h => ⟨y, h, .refl⟩
end Go.Eng

/- ENGINE 52: contracts of the first kind, used for calls over values of the second kind. -/
set_option linter.unusedVariables false
set_option linter.unusedSimpArgs false
namespace Go.Eng
open Go

/-- A call that changes nothing and whose answer says nothing of memory. -/
theorem callB_ext {call : CallF} {f : Nat} {args : List BV} {Φ : RB → LO → Prop} {rb : RB} (hΦ : Φ rb []) (H : ∀ G hp as, VBs G hp as args → ∃ r hp', call f as hp = some (r, hp') ∧ Grow hp hp' ∧ ∀ G' : Gh, RBr G' hp' r rb) : CallB call noP f args [] Φ := by
  intro G hp as hv _ _ _
  obtain ⟨r, hp', h1, h2, h3⟩ := H G hp as hv
  refine ⟨r, hp', h1, ⟨fun a => if a < hp.n then G.om a else 1, G.pi⟩, rb, [], ⟨h2.n, fun a ha _ => h2.get a ha, fun a ha => if_pos ha⟩, fun _ _ => rfl, h3 _, fun p hp => by simp at hp, hΦ⟩
theorem vn_int {om : Nat → Nat} {h : Hp} {E : Nat} {a : AV} {k : IntKind} {n : Int} (v : VN om h E a (.int k n)) : a = .int k n := by
  cases v with
  | sc hs => have := toA_iff.2 hs; simpa [toA] using this.symm
theorem vb_int {G : Gh} {h : Hp} {a : AV} {k : IntKind} {n : Int} (v : VB G h a (.int k n)) : a = .int k n := by
  cases v with
  | sc hs => have := toA_iff.2 hs; simpa [toA] using this.symm
theorem vb_str {G : Gh} {h : Hp} {a : AV} {s : List UInt8} (v : VB G h a (.str s)) : a = .str s := by
  cases v with
  | sc hs => have := toA_iff.2 hs; simpa [toA] using this.symm
theorem vb_agg {G : Gh} {h : Hp} {a : AV} {cs : List BV} (v : VB G h a (.agg cs)) : ∃ as, a = .agg as ∧ VBs G h as cs := by
  cases v with
  | sc hs => cases a <;> simp [scB] at hs
  | agg hn hr => exact ⟨_, rfl, hn, hr⟩
theorem flat_ci (ns : List Int) : (ns.map ci).flatten = ns.map fun n => BV.int .i64 n := by
  induction ns with
  | nil => rfl
  | cons n ns ih => rw [List.map_cons, List.flatten_cons, ih]; rfl
theorem flat_ai (ns : List Int) : (ns.map fun n => [AV.int .i64 n]).flatten = ns.map fun n => AV.int .i64 n := by
  induction ns with
  | nil => rfl
  | cons n ns ih => rw [List.map_cons, List.flatten_cons, ih]; rfl
theorem vns_ci {om : Nat → Nat} {h : Hp} {E : Nat} {cs : List AV} {ns : List Int} (v : VNs om h E cs (ns.map ci).flatten) : cs = (ns.map fun n => [AV.int .i64 n]).flatten := by
  rw [flat_ci] at v
  rw [flat_ai]
  induction ns generalizing cs with
  | nil => exact v.nil_r
  | cons n ns ih =>
    obtain ⟨a, l, rfl, h1, h2⟩ := v.cons_r
    rw [ih h2, vn_int h1]
    rfl
theorem rows1 : ∀ {rs : List (List AV)}, (∀ r ∈ rs, r.length = 1) → rs = rs.flatten.map fun a => [a]
  | [], _ => rfl
  | [a] :: rs, h => by
    rw [List.flatten_cons, List.map_append, ← rows1 fun r hr => h r (List.mem_cons_of_mem _ hr)]
    rfl
  | [] :: rs, h => by have := h [] (List.mem_cons_self ..); simp at this
  | (_ :: _ :: _) :: rs, h => by have := h _ (List.mem_cons_self ..); simp at this
theorem sl_of {G : Gh} {h : Hp} {a : AV} {ns : List Int} {own m : Nat} (v : VB G h a (.ls (ns.map ci) 1 own m)) : Sl h 1 a (ns.map fun n => [AV.int .i64 n]) := by
  generalize he : ns.map ci = es at v
  cases v with
  | sc hs => cases a <;> simp [scB] at hs
  | lsN => rw [List.map_eq_nil_iff.1 he]; exact .nil
  | lsA ha hk hq hm ho hl hs hp hr =>
    subst he
    rw [List.length_map] at hl
    subst hl
    have e := vns_ci hr
    subst e
    have e2 : ns.length = (ns.map fun n => [AV.int .i64 n]).length := by simp
    rw [e2] at hp ⊢
    exact .own ha hk hp (by simp)
  | lsO hm hl hs1 hs hr =>
    subst he
    have e := vns_ci hr
    rw [rows1 hs1, e, flat_ai, List.map_map]
    exact .old (by simp)
end Go.Eng

/- ENGINE 53: loops over a list, told as a fold. -/
set_option linter.unusedVariables false
set_option linter.unusedSimpArgs false
namespace Go.Eng
open Go

/-- A fold that may end early. -/
def foldE {α A ρ : Type} (g : A → α → A ⊕ ρ) (fin : A → ρ) : List α → A → ρ
  | [], a => fin a
  | x :: l, a => match g a x with
    | .inl a' => foldE g fin l a'
    | .inr r => r
def nxE {A σ ρ : Type} (st : Nat → A → σ) (i : Nat) : A ⊕ ρ → σ ⊕ ρ
  | .inl a => .inl (st (i + 1) a)
  | .inr r => .inr r
theorem itN_list {α A σ ρ : Type} {f : σ → Option (σ ⊕ ρ)} (st : Nat → A → σ) (g : A → α → A ⊕ ρ) (fin : A → ρ) (P : Nat → A → Prop) (l : List α)
    (h1 : ∀ i a x, l[i]? = some x → P i a → f (st i a) = some (nxE st i (g a x)) ∧ ∀ a', g a x = .inl a' → P (i + 1) a')
    (h2 : ∀ a, P l.length a → f (st l.length a) = some (.inr (fin a))) (a0 : A) (hP : P 0 a0) : itN f (l.length + 1) (st 0 a0) = some (foldE g fin l a0) := by
  have key : ∀ (r : List α) (i : Nat) (a : A), l.drop i = r → i + r.length = l.length → P i a → itN f (r.length + 1) (st i a) = some (foldE g fin r a) := by
    intro r
    induction r with
    | nil =>
      intro i a hd hi hp
      simp only [List.length_nil, Nat.add_zero] at hi
      subst hi
      simp only [List.length_nil, itN, h2 a hp, foldE]
    | cons x r ih =>
      intro i a hd hi hp
      have hx : l[i]? = some x := by
        have := congrArg (fun l => l[0]?) hd
        simpa using this
      obtain ⟨e1, e2⟩ := h1 i a x hx hp
      simp only [List.length_cons, itN, e1, foldE]
      cases hg : g a x with
      | inl a' =>
        simp only [nxE]
        refine ih (i + 1) a' ?_ (by simp only [List.length_cons] at hi; omega) (e2 a' hg)
        have := congrArg (List.drop 1) hd
        simpa [List.drop_drop, Nat.add_comm] using this
      | inr b => rfl
  exact key l 0 a0 rfl (by simp) hP
theorem itN_more {σ ρ : Type} {f : σ → Option (σ ⊕ ρ)} : ∀ {n : Nat} {s : σ} {r : ρ} (k : Nat), itN f n s = some r → itN f (n + k) s = some r
  | 0, _, _, _, h => by simp [itN] at h
  | n + 1, s, r, k, h => by
    rw [Nat.add_right_comm]
    simp only [itN] at h ⊢
    split at h
    · rename_i s' hs; exact itN_more k h
    · rename_i b hs; exact h
    · cases h
/-- What comes behind a loop. -/
def outE {τ β : Type} (K : τ → Option β) : τ ⊕ β → Option β
  | .inl v => K v
  | .inr z => some z
theorem lp_of {σ τ β : Type} {f : σ → Option (σ ⊕ (τ ⊕ β))} {s : σ} {K : τ → Option β} {n : Nat} {r : τ ⊕ β} (h : itN f n s = some r) (hn : n ≤ fuel) : lp f s K = outE K r := by
  obtain ⟨k, hk⟩ := Nat.exists_eq_add_of_le hn
  unfold lp
  rw [hk, itN_more k h]
  cases r <;> rfl
theorem lp_list {α A σ τ β : Type} {f : σ → Option (σ ⊕ (τ ⊕ β))} {s : σ} {K : τ → Option β} (st : Nat → A → σ) (g : A → α → A ⊕ (τ ⊕ β)) (fin : A → τ ⊕ β) (P : Nat → A → Prop) (l : List α) (a0 : A) (hs : s = st 0 a0) (hl : l.length < fuel)
    (h1 : ∀ i a x, l[i]? = some x → P i a → f (st i a) = some (nxE st i (g a x)) ∧ ∀ a', g a x = .inl a' → P (i + 1) a')
    (h2 : ∀ a, P l.length a → f (st l.length a) = some (.inr (fin a))) (hP : P 0 a0) : lp f s K = outE K (foldE g fin l a0) := by
  subst hs
  exact lp_of (itN_list st g fin P l h1 h2 a0 hP) hl
theorem idx_of {α : Type} {l : List α} {i : Nat} {x : α} (h : l[i]? = some x) : idx l (i : Int) = some x := by
  unfold idx
  rw [if_pos (by omega)]
  simpa using h
theorem app_of {α : Type} {l m : List α} (h : l.length + m.length ≤ 68719476736) : app l m = some (l ++ m) := if_pos h
theorem lt_of_get {α : Type} {l : List α} {i : Nat} {x : α} (h : l[i]? = some x) : i < l.length := (List.getElem?_eq_some_iff.1 h).1
end Go.Eng

/- ENGINE 54: what a law is asked about: from readings of the arguments to values of the second kind. -/
set_option linter.unusedVariables false
set_option linter.unusedSimpArgs false
namespace Go.Eng
open Go

/-- What single cells of plain data may be. -/
inductive Lf where
  | bool
  | int (k : IntKind)
  | str
  | sl (fs : List Lf)
section
variable (P : Program)
def lfsF (r : TypeId → Option (List Lf)) : Nat → List Field → Option (List Lf)
  | _, [] => some []
  | off, f :: fs => match r f.type with
    | some l => if f.offset = off ∧ P.cellsOf f.type = l.length then (match lfsF r (off + l.length) fs with | some m => some (l ++ m) | none => none) else none
    | none => none
/-- The cells of a type of plain data. -/
def lfs : Nat → TypeId → Option (List Lf)
  | 0, _ => none
  | n + 1, t => match P.underlying t with
    | some .bool => some [.bool]
    | some (.int k) => some [.int k]
    | some .string => some [.str]
    | some (.slice e) => (match lfs n e with
      | some fs => if 0 < fs.length ∧ P.cellsOf e = fs.length ∧ 0 < P.bytesOf e then some [.sl fs] else none
      | none => none)
    | some (.struct fields) => (match lfsF P (lfs n) 0 fields.toList with
      | some l => if l.length = P.cellsOf t then some l else none
      | none => none)
    | _ => none
end
inductive Sh : Lf → AV → Prop
  | bool (b) : Sh .bool (.bool b)
  | int (k n) (h : (Lit.int k n).wf = true) : Sh (.int k) (.int k n)
  | str (l) (h : l.length ≤ reachBytes) : Sh .str (.str l)
  | nil (fs) : Sh (.sl fs) .nils
  | rl (fs es) (hl : es.length ≤ reachBytes) (h1 : ∀ e ∈ es, e.length = fs.length) (h2 : ∀ e ∈ es, ∀ (i : Nat) f a, fs[i]? = some f → e[i]? = some a → Sh f a) : Sh (.sl fs) (.rl es fs.length false)
theorem Sh.one {f : Lf} {a : AV} (h : Sh f a) : a.one = true := by cases h <;> rfl
theorem add_add {a : Addr} (h : a.spot = none) (m n : Nat) : (a.add m).add n = ⟨a.block, a.off + m + n, none⟩ := by
  obtain ⟨b, o, s⟩ := a
  simp only at h
  subst h
  unfold Addr.add
  split <;> split <;> simp_all
theorem mem_weightsAll {H : Type} {P : Program} {e : TypeId} : ∀ {l : List (DataW H)} {d : DataW H} {n : Nat}, d ∈ l → n ∈ d.weights P e → n ∈ DataW.weightsAll P e l
  | d0 :: l, d, n, hd, hn => by
    simp only [DataW.weightsAll, List.mem_append]
    rcases List.mem_cons.1 hd with rfl | hd
    · exact .inl hn
    · exact .inr (mem_weightsAll hd hn)
section
variable {H : Type} {enc : TypeId × Value → H} {P : Program} {w : World} {sp : Nat → Bool} {held : Bool} {M : Nat → Option MB}
theorem open_fields {B : Nat} {r : TypeId → Option (List Lf)} {cs : List Value} : ∀ (fl : List Field) (off : Nat) (L : List Lf), lfsF P r off fl = some L →
    (∀ f ∈ fl, ∀ l, r f.type = some l → ((cs.drop f.offset).take (P.cellsOf f.type)).length = l.length → ∃ as, VRs w B M as ((cs.drop f.offset).take (P.cellsOf f.type)) ∧ L2 Sh l as) → off + L.length ≤ cs.length →
    ∃ as, VRs w B M as ((cs.drop off).take L.length) ∧ L2 Sh L as
  | [], off, L, hL, _, _ => by
    simp only [lfsF, Option.some.injEq] at hL
    subst hL
    exact ⟨[], by simpa using VRs.nil, .nil⟩
  | f :: fl, off, L, hL, hf, hlen => by
    simp only [lfsF] at hL
    split at hL
    · rename_i l hl
      split at hL
      · rename_i hc
        split at hL
        · rename_i m hm
          simp only [Option.some.injEq] at hL
          subst hL
          rw [List.length_append] at hlen
          obtain ⟨as, a1, a2⟩ := hf f (List.mem_cons_self ..) l hl (by rw [hc.1, hc.2, List.length_take, List.length_drop]; omega)
          obtain ⟨bs, b1, b2⟩ := open_fields fl (off + l.length) m hm (fun g hg => hf g (List.mem_cons_of_mem _ hg)) (by omega)
          rw [hc.1, hc.2] at a1
          refine ⟨as ++ bs, ?_, L2.append a2 b2⟩
          have := a1.append b1
          rw [← List.drop_drop] at this
          have e : (cs.drop off).take (l ++ m).length = (cs.drop off).take l.length ++ ((cs.drop off).drop l.length).take m.length := by
            rw [List.length_append, List.take_add]
          rw [e]
          exact this
        · cases hL
      · cases hL
    · cases hL
theorem open_lfs : ∀ (n : Nat) (t : TypeId) (L : List Lf), lfs P n t = some L → ∀ (fuel : Nat) (cs : List Value) (x : DataW H × List MemPlace), DataW.trod enc P w 0 sp held fuel t cs = some x → (∀ m ∈ x.1.weights P t, m ≤ reachBytes) →
    cs.length = L.length ∧ ∃ as, VRs w w.heap.size M as cs ∧ L2 Sh L as
  | 0, t, L, hL => by simp [lfs] at hL
  | n + 1, t, L, hL => by
    intro fuel cs x hx hw
    simp only [lfs] at hL
    split at hL
    · rename_i hu
      simp only [Option.some.injEq] at hL
      subst hL
      obtain ⟨b, rfl, rfl⟩ := DataW.trod_bool hu hx
      exact ⟨rfl, [.bool b], .cons (.bool b) .nil, .cons (.bool b) .nil⟩
    · rename_i k hu
      simp only [Option.some.injEq] at hL
      subst hL
      obtain ⟨b, rfl, rfl, hwf⟩ := DataW.trod_int hu hx
      exact ⟨rfl, [.int k b], .cons (.int k b) .nil, .cons (.int k b hwf) .nil⟩
    · rename_i hu
      simp only [Option.some.injEq] at hL
      subst hL
      obtain ⟨s, rfl, rfl, _⟩ := DataW.trod_string hu hx
      exact ⟨rfl, [.str s.data.toList], .cons (.str _ _ rfl) .nil, .cons (.str _ (hw _ (by simp [DataW.weights]))) .nil⟩
    · rename_i e hu
      split at hL
      · rename_i fs hfs
        split at hL
        · rename_i hc
          simp only [Option.some.injEq] at hL
          subst hL
          rcases DataW.trod_slice hu hx with ⟨rfl, rfl⟩ | ⟨a, len, cap, elems, rest, n', _, rfl, rfl, _, hlc, _, hel, hget, _, _⟩
          · exact ⟨rfl, [.nils], .cons .nils .nil, .cons (.nil fs) .nil⟩
          · refine ⟨rfl, ?_⟩
            have hsz : (elems.map (·.1)).length * 1 ≤ reachBytes := by
              have h1 := hw (((elems.map (·.1)).length + (rest.map (·.1)).length) * P.bytesOf e) (by simp [DataW.weights, hu])
              refine Nat.le_trans (Nat.mul_le_mul (Nat.le_add_right _ _) ?_) h1
              exact hc.2.2
            have hrow : ∀ i, ∃ p : List Value × List AV, i < len → w.cells? 0 (a.add (i * P.cellsOf e)) (P.cellsOf e) = some p.1 ∧ VRs w w.heap.size M p.2 p.1 ∧ L2 Sh fs p.2 := by
              intro i
              by_cases hi : i < len
              · have hg := hget i hi
                have hi' : i < elems.length := by omega
                rw [List.getElem?_eq_getElem hi'] at hg
                obtain ⟨row, h1, h2⟩ := Option.bind_eq_some_iff.1 hg
                obtain ⟨_, as, h3, h4⟩ := open_lfs n e fs hfs n' row _ h2 (fun m hm => hw m (by
                  simp only [DataW.weights, hu, List.mem_cons, List.mem_append]
                  exact .inr (.inl (mem_weightsAll (List.mem_map.2 ⟨_, List.getElem_mem hi', rfl⟩) hm))))
                exact ⟨(row, as), fun _ => ⟨h1, h3, h4⟩⟩
              · exact ⟨([], []), fun h => absurd h hi⟩
            obtain ⟨g, hg⟩ := Classical.axiomOfChoice hrow
            have hes : ∀ (i : Nat) (r : List AV), ((List.range len).map fun i => (g i).2)[i]? = some r → i < len ∧ r = (g i).2 := by
              intro i r hr
              rw [List.getElem?_map, Option.map_eq_some_iff] at hr
              obtain ⟨j, h1, h2⟩ := hr
              have hi := (List.getElem?_eq_some_iff.1 h1).1
              rw [List.length_range] at hi
              rw [List.getElem?_range hi] at h1
              cases h1
              exact ⟨hi, h2.symm⟩
            have hmem : ∀ r ∈ (List.range len).map fun i => (g i).2, ∃ i, i < len ∧ r = (g i).2 := by
              intro r hr
              obtain ⟨i, hi, rfl⟩ := List.mem_map.1 hr
              exact ⟨i, List.mem_range.1 hi, rfl⟩
            have hlen : ((List.range len).map fun i => (g i).2).length = len := by simp
            have hspot : 0 < len → a.spot = none ∧ a.block < w.heap.size := by
              intro h0
              obtain ⟨c1, _, _⟩ := hg 0 h0
              have hb := World.cells?_block c1 (by rw [hc.2.1]; exact hc.1)
              refine ⟨?_, by simpa [Addr.add] using hb⟩
              obtain ⟨_, q1, q2⟩ := World.cells?_some c1
              have q3 := q2 0 (by rw [hc.2.1]; exact hc.1)
              have hpos : 0 < (g 0).1.length := by rw [q1, hc.2.1]; exact hc.1
              rw [List.getElem?_eq_getElem hpos] at q3
              unfold World.cell? at q3
              split at q3
              · split at q3
                · cases q3
                · rename_i hns
                  cases hsp : a.spot with
                  | none => rfl
                  | some s => simp [Addr.add, hsp] at hns
              · cases q3
            refine ⟨[.rl ((List.range len).map fun i => (g i).2) fs.length false], .cons ?_ .nil, .cons (.rl fs _ (by rw [hlen]; simpa [hel] using hsz) (fun r hr => ?_) (fun r hr i f b hf hb => ?_)) .nil⟩
            · have hv := VR.rl (W0 := w) (B := w.heap.size) (M := M) ((List.range len).map fun i => (g i).2) fs.length false a cap (fun i j => ((g i).1[j]?).getD undef) (by rw [hlen]; exact hlc) (fun h => by cases h) ?_ ?_ ?_ ?_ ?_
              · rw [hlen] at hv
                exact hv
              · intro hne
                have h0 : 0 < len := by
                  rcases Nat.eq_zero_or_pos len with h | h
                  · subst h; exact absurd rfl hne
                  · exact h
                exact hspot h0
              · intro i r hr
                obtain ⟨hi, rfl⟩ := hes i r hr
                exact (hg i hi).2.2.1.symm
              · intro i r j y hr hy
                obtain ⟨hi, rfl⟩ := hes i r hr
                obtain ⟨c1, c2, c3⟩ := hg i hi
                obtain ⟨_, q1, q2⟩ := World.cells?_some c1
                have hj : j < P.cellsOf e := by
                  have := (List.getElem?_eq_some_iff.1 hy).1
                  rw [c2.1, q1] at this
                  exact this
                have hj' : j < (g i).1.length := by rw [q1]; exact hj
                have q3 := q2 j hj
                rw [List.getElem?_eq_getElem hj'] at q3 ⊢
                simp only [Option.getD_some]
                rw [← q3, hc.2.1, add_add (hspot (by omega)).1]
              · intro i r j y hr hy
                obtain ⟨hi, rfl⟩ := hes i r hr
                obtain ⟨c1, c2, c3⟩ := hg i hi
                have hj' : j < (g i).1.length := by rw [← c2.1]; exact (List.getElem?_eq_some_iff.1 hy).1
                have hv := List.getElem?_eq_getElem hj'
                rw [hv]
                exact c2.2 j y _ hy hv
              · intro i r j y hr hy
                obtain ⟨hi, rfl⟩ := hes i r hr
                obtain ⟨c1, c2, c3⟩ := hg i hi
                have hj : j < fs.length := by rw [c3.1]; exact (List.getElem?_eq_some_iff.1 hy).1
                exact (c3.2 j _ _ (List.getElem?_eq_getElem hj) hy).one
            · obtain ⟨i, hi, rfl⟩ := hmem r hr
              exact (hg i hi).2.2.1.symm
            · obtain ⟨j, hj, rfl⟩ := hmem r hr
              exact (hg j hj).2.2.2 i f b hf hb
        · cases hL
      · cases hL
    · rename_i fields hu
      split at hL
      · rename_i l hl
        split at hL
        · rename_i hlen
          simp only [Option.some.injEq] at hL
          subst hL
          obtain ⟨xs, n', _, rfl, hcl, hxl, hf⟩ := DataW.trod_struct hu hx
          refine ⟨by rw [hcl, hlen], ?_⟩
          obtain ⟨as, a1, a2⟩ := open_fields (w := w) (B := w.heap.size) (M := M) (cs := cs) fields.toList 0 l hl (fun f hfm lf hlf hll => by
            obtain ⟨i, hi, rfl⟩ := List.getElem_of_mem hfm
            have hi2 : i < fields.size := by simpa using hi
            have hfi : fields[i]? = some fields.toList[i] := by simp [hi2]
            have h1 := hf i _ hfi
            have hxi : i < xs.length := by omega
            rw [List.getElem?_eq_getElem hxi] at h1
            refine (open_lfs n _ lf hlf n' _ _ h1 fun m hm => hw m ?_).2
            simp only [DataW.weights, hu]
            exact DataW.weights_mem_each (j := i) (t := fields.toList[i].type) (d := xs[i].1) (by simp [hi2]) (by simp [hxi]) m hm) (by omega)
          rw [List.drop_zero, List.take_of_length_le (by omega)] at a1
          exact ⟨as, a1, a2⟩
        · cases hL
      · cases hL
    · cases hL
end

/-! ### To values of the second kind -/
inductive ShB : Lf → BV → Prop
  | bool (b) : ShB .bool (.bool b)
  | int (k n) (h : (Lit.int k n).wf = true) : ShB (.int k) (.int k n)
  | str (l) (h : l.length ≤ reachBytes) : ShB .str (.str l)
  | sl (fs es) (hl : es.length ≤ reachBytes) (h1 : ∀ e ∈ es, e.length = fs.length) (h2 : ∀ e ∈ es, ∀ (i : Nat) f b, fs[i]? = some f → e[i]? = some b → ShB f b) : ShB (.sl fs) (.ls es fs.length 0 0)
theorem flatten_get {α β : Type} {R : α → β → Prop} {sz : Nat} : ∀ {rs : List (List α)} {es : List (List β)}, rs.length = es.length → (∀ r ∈ rs, r.length = sz) → (∀ e ∈ es, e.length = sz) → (∀ (i : Nat) r e, rs[i]? = some r → es[i]? = some e → L2 R r e) → L2 R rs.flatten es.flatten
  | [], [], _, _, _, _ => .nil
  | r :: rs, e :: es, hl, h1, h2, h => by
    rw [List.flatten_cons, List.flatten_cons]
    exact L2.append (h 0 r e rfl rfl) (flatten_get (by simpa using hl) (fun x hx => h1 x (List.mem_cons_of_mem _ hx)) (fun x hx => h2 x (List.mem_cons_of_mem _ hx)) fun i r e hr he => h (i + 1) r e (by simpa using hr) (by simpa using he))
  | [], _ :: _, hl, _, _, _ => by simp at hl
  | _ :: _, [], hl, _, _, _ => by simp at hl
theorem L2.choose {α β : Type} {R : α → β → Prop} : ∀ {l : List α}, (∀ a ∈ l, ∃ b, R a b) → ∃ m, L2 R l m
  | [], _ => ⟨[], .nil⟩
  | a :: l, h => by
    obtain ⟨b, hb⟩ := h a (List.mem_cons_self ..)
    obtain ⟨m, hm⟩ := L2.choose fun x hx => h x (List.mem_cons_of_mem _ hx)
    exact ⟨b :: m, .cons hb hm⟩
def ToB (f : Lf) (a : AV) (b : BV) : Prop := ShB f b ∧ ∀ om h E, Old om h E → VN om h E a b
theorem Sh.toB {f : Lf} {a : AV} (s : Sh f a) : ∃ b, ToB f a b := by
  induction s with
  | bool b => exact ⟨.bool b, .bool b, fun _ _ _ _ => .sc rfl⟩
  | int k n h => exact ⟨.int k n, .int k n h, fun _ _ _ _ => .sc rfl⟩
  | str l h => exact ⟨.str l, .str l h, fun _ _ _ _ => .sc rfl⟩
  | nil fs => exact ⟨.ls [] fs.length 0 0, .sl fs [] (by simp) (by simp) (by simp), fun _ _ _ _ => .lsN⟩
  | rl fs es hl h1 h2 ih =>
    have hrow : ∀ e ∈ es, ∃ r : List BV, r.length = fs.length ∧ ∀ (i : Nat) f a b, fs[i]? = some f → e[i]? = some a → r[i]? = some b → ToB f a b := by
      intro e he
      have hl1 := h1 e he
      have : ∀ i, ∃ b, ∀ f a, fs[i]? = some f → e[i]? = some a → ToB f a b := fun i => by
        by_cases hi : i < fs.length
        · have hi' : i < e.length := by omega
          obtain ⟨b, hb⟩ := ih e he i _ _ (List.getElem?_eq_getElem hi) (List.getElem?_eq_getElem hi')
          exact ⟨b, fun f a hf ha => by
            rw [List.getElem?_eq_getElem hi] at hf
            rw [List.getElem?_eq_getElem hi'] at ha
            cases hf; cases ha; exact hb⟩
        · exact ⟨.any, fun f a hf => by rw [List.getElem?_eq_none (by omega)] at hf; cases hf⟩
      obtain ⟨g, hg⟩ := Classical.axiomOfChoice this
      refine ⟨(List.range fs.length).map g, by simp, fun i f a b hf ha hb => ?_⟩
      have hi := (List.getElem?_eq_some_iff.1 hf).1
      rw [List.getElem?_map, List.getElem?_range hi] at hb
      simp only [Option.map_some, Option.some.injEq] at hb
      subst hb
      exact hg i f a hf ha
    obtain ⟨rs, hrs⟩ := L2.choose hrow
    refine ⟨.ls rs fs.length 0 0, .sl fs rs (by rw [← hrs.1]; exact hl) (fun r hr => ?_) (fun r hr i f b hf hb => ?_), fun om h E hE => .lsO hE hrs.1 (fun r hr => h1 r hr) (fun r hr => ?_) ?_ ?_⟩
    · obtain ⟨i, hi, rfl⟩ := List.getElem_of_mem hr
      have hi' : i < es.length := by rw [hrs.1]; exact hi
      exact (hrs.2 i _ _ (List.getElem?_eq_getElem hi') (List.getElem?_eq_getElem hi)).1
    · obtain ⟨j, hj, rfl⟩ := List.getElem_of_mem hr
      have hj' : j < es.length := by rw [hrs.1]; exact hj
      have q := hrs.2 j _ _ (List.getElem?_eq_getElem hj') (List.getElem?_eq_getElem hj)
      have hif := (List.getElem?_eq_some_iff.1 hf).1
      have hie : i < es[j].length := by rw [h1 _ (List.getElem_mem hj')]; exact hif
      exact (q.2 i f _ b hf (List.getElem?_eq_getElem hie) hb).1
    · obtain ⟨i, hi, rfl⟩ := List.getElem_of_mem hr
      have hi' : i < es.length := by rw [hrs.1]; exact hi
      exact (hrs.2 i _ _ (List.getElem?_eq_getElem hi') (List.getElem?_eq_getElem hi)).1
    all_goals
      have hflat : L2 (VN om h E) es.flatten rs.flatten := flatten_get (sz := fs.length) hrs.1 (fun r hr => h1 r hr) (fun r hr => by
        obtain ⟨i, hi, rfl⟩ := List.getElem_of_mem hr
        have hi' : i < es.length := by rw [hrs.1]; exact hi
        exact (hrs.2 i _ _ (List.getElem?_eq_getElem hi') (List.getElem?_eq_getElem hi)).1) fun i e r he hr => by
          have q := hrs.2 i e r he hr
          have hle := h1 e (List.mem_of_getElem? he)
          refine ⟨by rw [hle, q.1], fun j a b ha hb => ?_⟩
          have hjf : j < fs.length := by rw [← hle]; exact (List.getElem?_eq_some_iff.1 ha).1
          exact (q.2 j _ a b (List.getElem?_eq_getElem hjf) ha hb).2 om h E hE
    · exact hflat.1
    · exact hflat.2
/-- As a call has it: what comes from outside. -/
def upm (m : Nat) : BV → BV
  | .ls es sz _ _ => .ls es sz 0 m
  | v => v
theorem ToB.vb {f : Lf} {a : AV} {b : BV} (t : ToB f a b) (G : Gh) (h : Hp) {m : Nat} (hm : Old G.om h m) : VB G h a (upm m b) := by
  have v := t.2 G.om h m hm
  cases v with
  | sc hs =>
    have : upm m b = b := by cases a <;> simp [scB] at hs <;> subst hs <;> rfl
    rw [this]; exact .sc hs
  | ai => exact .ai
  | sx => exact .sx
  | lsN => exact .lsN
  | lsA ha hk hm' hl hs hp hn hr => exact .lsA ha hk hm'.1 (fun _ => hm'.2) (fun h => absurd rfl h) hl hs hp ⟨hn, hr⟩
  | lsO hm' hl hs1 hs hn hr => exact .lsO hm hl hs1 hs ⟨hn, hr⟩
theorem toBs {L : List Lf} : ∀ {as : List AV}, L2 Sh L as → ∃ bs, L2 ShB L bs ∧ ∀ (G : Gh) (h : Hp) (m : Nat), Old G.om h m → VBs G h as (bs.map (upm m)) := by
  induction L with
  | nil => intro as h; rw [h.nil_l]; exact ⟨[], .nil, fun _ _ _ _ => .nil⟩
  | cons f L ih =>
    intro as h
    cases as with
    | nil => have := h.1; simp at this
    | cons a as =>
      obtain ⟨b, hb⟩ := (h.2 0 f a rfl rfl).toB
      obtain ⟨bs, h1, h2⟩ := ih (as := as) ⟨by have := h.1; simpa using this, fun i x y hx hy => h.2 (i + 1) x y (by simpa using hx) (by simpa using hy)⟩
      exact ⟨b :: bs, .cons hb.1 h1, fun G h m hm => .cons (hb.vb G h hm) (h2 G h m hm)⟩
/-- A list of rows is a list of structures. -/
theorem shb_list {α : Type} {row : α → List BV} {Q : α → Prop} {fs : List Lf} (H : ∀ bs, L2 ShB fs bs → ∃ x, bs = row x ∧ Q x) {b : BV} (h : ShB (.sl fs) b) : ∃ l : List α, b = .ls (l.map row) fs.length 0 0 ∧ l.length ≤ reachBytes ∧ ∀ x ∈ l, Q x := by
  cases h with
  | sl _ es hl h1 h2 =>
    have : ∀ e ∈ es, ∃ x, e = row x ∧ Q x := fun e he => H e ⟨(h1 e he).symm, fun i f b hf hb => h2 e he i f b hf hb⟩
    obtain ⟨l, hl2⟩ := L2.choose this
    refine ⟨l, ?_, by rw [← hl2.1]; exact hl, fun x hx => ?_⟩
    · congr 1
      refine List.ext_getElem (by simp [hl2.1]) fun i h1 h2 => ?_
      have hi : i < l.length := by simpa using h2
      rw [List.getElem_map]
      exact (hl2.2 i _ _ (List.getElem?_eq_getElem h1) (List.getElem?_eq_getElem hi)).1
    · obtain ⟨i, hi, rfl⟩ := List.getElem_of_mem hx
      have hi' : i < es.length := by rw [hl2.1]; exact hi
      exact (hl2.2 i _ _ (List.getElem?_eq_getElem hi') (List.getElem?_eq_getElem hi)).2
theorem shb_ci {b : BV} (h : ShB (.sl [.int .i64]) b) : ∃ l : List Int, b = .ls (l.map ci) 1 0 0 ∧ l.length ≤ reachBytes ∧ ∀ x ∈ l, (Lit.int .i64 x).wf = true :=
  shb_list (fun bs hb => by
    have h1 := hb.1
    match bs, h1 with
    | [b], _ =>
      have := hb.2 0 _ b rfl rfl
      cases this with
      | int k n hw => exact ⟨n, rfl, hw⟩) h
end Go.Eng

/- ENGINE 55: the closing of a law's row. -/
set_option linter.unusedVariables false
set_option linter.unusedSimpArgs false
namespace Go.Eng
open Go Go.ChangeShapes Go.WideShapes Go.RowKit

theorem vb_bool {G : Gh} {h : Hp} {a : AV} {b : Bool} (v : VB G h a (.bool b)) : a = .bool b := by
  cases v with
  | sc hs => have := toA_iff.2 hs; simpa [toA] using this.symm
def hp0 : Hp := ⟨.leaf, 1⟩
theorem hp0_get (b : Nat) : hp0.get b = none := rfl
def gh0 : Gh := ⟨fun _ => 0, fun _ => none⟩
/-- A law that answers true, from its contract. -/
theorem law_calls {P : Program} {call : CallF} (sound : ∀ W0 B, CallOk P W0 B call) {P0 : Nat → Bool} {f : Nat} {avs : List AV} {bvs : List BV} {W : World} {vs : List Value}
    (hv : VRs W W.heap.size (fun _ => none) avs vs) (hb : VBs gh0 hp0 avs bvs) (hc : CallB call P0 f bvs [] (fun r ob => r = .ret (.bool true) ∧ ob = [])) (hP0 : P0 0 = false := by rfl) :
    Calls P f vs.toArray W fun e W' => e = .returned (.bool true) ∧ Below W.heap.size W W' := by
  obtain ⟨rA, h', h1, G', r, ob', _, _, h4, _, h6, _⟩ := hc gh0 hp0 avs hb (fun p hp => by simp at hp) (fun a ha => rfl) ⟨by decide, hP0⟩
  subst h6
  cases rA with
  | panic x => cases h4
  | ret x =>
    have hx : x = .bool true := vb_bool h4
    subst hx
    have hi : Inv W W.heap.size (fun _ => none) hp0 W := ⟨Nat.le_refl _, fun _ _ => rfl, fun b _ => ⟨hp0_get b, rfl⟩, fun b k h => (by rw [hp0_get] at h; cases h), fun b c k l m n h => (by rw [hp0_get] at h; cases h)⟩
    refine ((sound W W.heap.size f avs hp0 _ h' h1).2 _ W vs hi hv).mono fun e W' ⟨M', hf, _, hr⟩ => ?_
    refine ⟨?_, hf.os, hf.tape, hf.out, hf.size, fun k hk => hf.same k hk fun b k' m h => (by rw [hp0_get] at h; cases h)⟩
    cases e with
    | returned v =>
      cases hr
      rfl
    | _ => cases hr
section
variable {H : Type} {enc : TypeId × Value → H} {P : Program}
theorem stays_all (hl : laidOutB P = true) {W W' : World} {sp : Nat → Bool} (hb : Below W.heap.size W W') : ∀ {ts : List TypeId} {vs : List Value} {ds : List (DataW H)} {ps : List MemPlace}, (∀ t ∈ ts, P.readableRec t = true ∧ t < P.types.size) →
    DataW.TrodAll enc P W 0 (fun _ => true) true ts vs ds ps → (∀ p ∈ ps, p.block < W.heap.size) → (∀ p ∈ ps, sp p.block = true) → DataW.TrodAll enc P W' 0 sp true ts vs ds ps
  | [], [], [], _, _, h, _, _ => h
  | t :: ts, v :: vs, d :: ds, ps, hr, ⟨p, q, h1, h2, e⟩, hlt, hs => by
    subst e
    refine ⟨p, q, WideElems.Trod_stays hl (hr t (List.mem_cons_self ..)).1 (hr t (List.mem_cons_self ..)).2 h1 (fun x hx => hb.same (hlt x (List.mem_append_left _ hx))) (fun x hx => hs x (List.mem_append_left _ hx)), ?_, rfl⟩
    exact stays_all hl hb (fun t ht => hr t (List.mem_cons_of_mem _ ht)) h2 (fun x hx => hlt x (List.mem_append_right _ hx)) (fun x hx => hs x (List.mem_append_right _ hx))
/-- What a law's row asks behind the call. -/
theorem law_post {f : Func} {s : ChangeSpec} {apart fresh handsOn again : Bool} {W W' : World} {args : Array Value} {ds gs : List (DataW H)} {before : List MemPlace} {tb : TypeId}
    (hl : laidOutB P = true) (hr : ∀ t ∈ f.params.toList, P.readableRec t = true ∧ t < P.types.size) (hW : DataW.Whole enc P f.params.toList s.vars apart W args.toList ds gs before) (hv : s.vars = [])
    (hrt : f.resultTypes = #[tb]) (htb : P.underlying tb = some .bool) (hfn : s.fn H (ds ++ gs) = { results := [.lit (.bool true)], args := ds }) (hb : Below W.heap.size W W') :
    s.post enc P f apart fresh handsOn again W args (.bool true) W' := by
  have hlt := hW.lt
  have hW2 := hW
  obtain ⟨p, q, hA, hV, rfl, hfz, hnd⟩ := hW2
  rw [hv] at hV
  obtain ⟨rfl, rfl⟩ := trodVars_none hV
  rw [List.append_nil] at hlt hfz hnd hW
  have hres : ∀ (b : Nat) (sp : Nat → Bool) (hd : Bool), DataW.TrodAll enc P W' b sp hd f.resultTypes.toList ((Value.bool true).resultList f.resultTypes.size) [.lit (.bool true)] [] := fun b sp hd => by
    rw [hrt]
    exact trodAll_mk1 ⟨1, by simp [DataW.trod, htb, Value.cells]⟩
  have hargs : ∀ sp : Nat → Bool, (∀ x ∈ p, sp x.block = true) → DataW.TrodAll enc P W' 0 sp true f.params.toList args.toList ds p := fun sp hsp => stays_all hl hb hr hA hlt hsp
  have hvars : ∀ sp : Nat → Bool, DataW.TrodVars enc P W' sp s.vars [] [] := fun sp => by rw [hv]; exact rfl
  have hok := ok_one (W' := W') (v := .bool true) hrt rfl (okWide_bool_mk htb true)
  refine ⟨ds, [], p, [], p, [], hW, ?_, ?_, ?_, hb.frame _, fun _ => ?_⟩
  · rw [hfn]; exact hres _ _ _
  · rw [hfn]; exact hargs _ fun x hx => by simpa using hlt x hx
  · rw [hfn]; exact hvars _
  · refine ⟨hok, _, [], ([] ++ p) ++ [], ⟨[] ++ p, [], trodAll_append (hargs _ (fun _ _ => rfl)) (hres _ _ _), hvars _, rfl, ?_, ?_⟩, ?_⟩
    · intro b off hp
      have hp' : MemPlace.cell b off ∈ p := by simpa using hp
      rw [hb.frozen (hlt _ hp')]
      exact hfz b off hp'
    · intro ha
      simpa using hnd ha
    · intro x hx _
      simpa using hx
theorem open_struct {n : Nat} {t : TypeId} {fields : Array Field} {L : List Lf} (hL : lfs P n t = some L) (hst : P.underlying t = some (.struct fields)) {W : World} {base : Nat} {sp : Nat → Bool} {held : Bool} {v : Value} {d : DataW H} {p : List MemPlace}
    (hok : Value.okWide P W .any base t v) (h : DataW.Trod enc P W 0 sp held t v d p) (hw : ∀ m ∈ d.weights P t, m ≤ reachBytes) : ∃ as, VR W W.heap.size (fun _ => none) (.agg as) v ∧ L2 Sh L as := by
  unfold Value.okWide at hok
  rw [hst] at hok
  obtain ⟨cs, rfl, _, _⟩ := hok
  obtain ⟨fuel, hf⟩ := h
  obtain ⟨_, as, h1, h2⟩ := open_lfs (M := fun _ => none) n t L hL fuel _ _ hf hw
  have e : (Value.agg cs).cells.toList = cs.toList := by simp [Value.cells]
  rw [e] at h1
  have := VR.agg (W0 := W) (B := W.heap.size) (M := fun _ => none) as cs.toList h1.1 h1.2
  exact ⟨as, by simpa using this, h2⟩
end
end Go.Eng

/- ENGINE 56: stores into rows of which no more than the shape is known. -/
set_option linter.unusedVariables false
set_option linter.unusedSimpArgs false
namespace Go.Eng
open Go

/-- What lies in rows, no number and no text told. -/
inductive BlN : BV → Prop
  | ai {k} : BlN (.ai k)
  | sx : BlN .sx
  | bool {b} : BlN (.bool b)
  | nilp : BlN .nilp
  | nilfn : BlN .nilfn
  | nilif : BlN .nilif
  | ls {es sz own m} (h : ∀ x ∈ es.flatten, BlN x) : BlN (.ls es sz own m)
/-- A value that abides such stores into memory of the tags 'U'. -/
inductive BlV (U : Nat) : BV → Prop
  | free {v} (h : v.free U 0 = true) : BlV U v
  | ls {es sz own m} (h : ∀ x ∈ es.flatten, BlN x) : BlV U (.ls es sz own m)
  | ro {cs off m} (h : ∀ x ∈ cs, BlN x) : BlV U (.ro cs off m)
  | agg {cs} (h : ∀ x ∈ cs, BlV U x) : BlV U (.agg cs)
  | tup {cs} (h : ∀ x ∈ cs, BlV U x) : BlV U (.tup cs)
theorem fa_nil {α : Type} {P : α → Prop} : ∀ x ∈ ([] : List α), P x := fun x hx => by simp at hx
theorem fa_cons {α : Type} {P : α → Prop} {a : α} {l : List α} (h : P a) (k : ∀ x ∈ l, P x) : ∀ x ∈ a :: l, P x := fun x hx => by
  rcases List.mem_cons.1 hx with rfl | hx
  · exact h
  · exact k x hx
theorem bl_rows {α : Type} {row : α → List BV} {l : List α} (h : ∀ e, ∀ x ∈ row e, BlN x) : ∀ x ∈ (List.map row l).flatten, BlN x := fun x hx => by
  obtain ⟨r, hr, hx⟩ := List.mem_flatten.1 hx
  obtain ⟨e, _, rfl⟩ := List.mem_map.1 hr
  exact h e x hx
def BlS (U : Nat) : BSlot → Prop
  | .v x => BlV U x
  | _ => True
def AllS (U : Nat) (l : SL) : Prop := ∀ p ∈ l, BlS U p.2
def AllL (U : Nat) (l : LO) : Prop := ∀ p ∈ l, ∀ v ∈ p.2, BlV U v
def cib (_ : Int) : List BV := [.ai .i64]
def csb (_ : List UInt8) : List BV := [.sx]
theorem cib_bl (e : Int) : ∀ x ∈ cib e, BlN x := fa_cons .ai fa_nil
theorem csb_bl (e : List UInt8) : ∀ x ∈ csb e, BlN x := fa_cons .sx fa_nil
theorem cib_wk (e : Int) : L2 WkN (ci e) (cib e) := .cons .ai .nil
theorem csb_wk (e : List UInt8) : L2 WkN (cs e) (csb e) := .cons .sx .nil

/-! #### One cell becomes another of its kind -/
inductive SameK : AV → AV → Prop
  | i {k n m} : SameK (.int k n) (.int k m)
  | s {a b} : SameK (.str a) (.str b)
theorem SameK.vn {om : Nat → Nat} {h h' : Hp} {E : Nat} {x y : AV} {b : BV} (k : SameK x y) (v : VN om h E x b) (hb : BlN b) : VN om h' E y b := by
  cases k with
  | i =>
    cases v with
    | sc hs => have := toA_iff.2 hs; cases hb <;> simp [toA] at this
    | ai => exact .ai
  | s =>
    cases v with
    | sc hs => have := toA_iff.2 hs; cases hb <;> simp [toA] at this
    | sx => exact .sx
theorem SameK.one {x y : AV} (k : SameK x y) : y.one = true := by cases k <;> rfl
section
variable {h : Hp} {a p : Nat} {kb : Blk} {c0 c1 : AV}
/-- The memory behind such a store: block by block. -/
theorem chg_part (hk : h.get a = some kb) (hc : kb.cells[p]? = some c0) (hs : SameK c0 c1) {b off n : Nat} {k : Blk} {cs : List AV} (hb : h.get b = some k) (hp : part k.cells off n = some cs) :
    ∃ k' cs', (h.put a ⟨kb.ty, kb.cells.set p c1⟩).get b = some k' ∧ part k'.cells off n = some cs' ∧ cs'.length = cs.length ∧ ∀ (i : Nat) x, cs'[i]? = some x → ∃ x0, cs[i]? = some x0 ∧ (x = x0 ∨ SameK x0 x) := by
  by_cases he : b = a
  · subst he
    rw [hk] at hb
    cases hb
    refine ⟨_, ((kb.cells.set p c1).drop off).take n, by rw [Hp.get_put, if_pos rfl], ?_, ?_, ?_⟩
    · rw [part_eq, partG_some] at hp ⊢
      exact ⟨by simpa using hp.1, rfl⟩
    · rw [part_eq, partG_some] at hp
      rw [hp.2]; simp
    · intro i x hx
      rw [part_eq, partG_some] at hp
      rw [hp.2]
      rw [List.getElem?_take, List.getElem?_drop] at hx ⊢
      split at hx
      · rename_i hi
        rw [if_pos hi]
        rw [List.getElem?_set] at hx
        split at hx
        · rename_i hpi
          split at hx
          · cases hx
            rw [← hpi]
            exact ⟨c0, hc, .inr hs⟩
          · cases hx
        · exact ⟨x, hx, .inl rfl⟩
      · cases hx
  · refine ⟨k, cs, by rw [Hp.get_put, if_neg he]; exact hb, hp, rfl, fun i x hx => ⟨x, hx, .inl rfl⟩⟩
theorem VN.blur {om : Nat → Nat} {E : Nat} {x : AV} {b : BV} (hk : h.get a = some kb) (hc : kb.cells[p]? = some c0) (hs : SameK c0 c1) (v : VN om h E x b) (hb : BlN b) : VN om (h.put a ⟨kb.ty, kb.cells.set p c1⟩) E x b := by
  induction v with
  | sc hs => exact .sc hs
  | ai => exact .ai
  | sx => exact .sx
  | lsN => exact .lsN
  | @lsA a' off len sz cap k es cs ha hk' hm hl hs' hp hn hr ih =>
    obtain ⟨k', cs', q1, q2, q3, q4⟩ := chg_part hk hc hs hk' hp
    cases hb with
    | ls hf =>
    refine .lsA ha q1 hm hl hs' q2 (q3.trans hn) fun i x y hx hy => ?_
    have hy' := hf y (List.mem_of_getElem? hy)
    obtain ⟨x0, z1, z2⟩ := q4 i x hx
    rcases z2 with rfl | z2
    · exact ih i x y z1 hy hy'
    · exact z2.vn (hr i x0 y z1 hy) hy'
  | @lsO rs sz c es hm hl hs1 hs' hn hr ih =>
    cases hb with
    | ls hf => exact .lsO ⟨hm.1, hm.2⟩ hl hs1 hs' hn fun i x y hx hy => ih i x y hx hy (hf y (List.mem_of_getElem? hy))
theorem VNs.blur {om : Nat → Nat} {E : Nat} {cs cs' : List AV} {l : List BV} (hk : h.get a = some kb) (hc : kb.cells[p]? = some c0) (hs : SameK c0 c1) (v : VNs om h E cs l) (hn : cs'.length = cs.length) (hq : ∀ (i : Nat) x, cs'[i]? = some x → ∃ x0, cs[i]? = some x0 ∧ (x = x0 ∨ SameK x0 x)) (hb : ∀ x ∈ l, BlN x) : VNs om (h.put a ⟨kb.ty, kb.cells.set p c1⟩) E cs' l :=
  ⟨hn.trans v.1, fun i x y hx hy => by
    have hy' := hb y (List.mem_of_getElem? hy)
    obtain ⟨x0, z1, z2⟩ := hq i x hx
    rcases z2 with rfl | z2
    · exact (v.2 i x y z1 hy).blur hk hc hs hy'
    · exact z2.vn (v.2 i x0 y z1 hy) hy'⟩
variable {G : Gh} {k : Nat}
theorem go_chg (ho : G.om a = k) (hk : h.get a = some kb) : Go1 (fun t => Nat.beq t k) G.om G.om h (h.put a ⟨kb.ty, kb.cells.set p c1⟩) :=
  ⟨Nat.le_refl _, fun x hx hq => by
    rw [Hp.get_put, if_neg]
    rintro rfl
    rw [ho] at hq; simp at hq, fun _ _ => rfl⟩
theorem wi_one : Wi (fun t => Nat.beq t k) (2 ^ k) := fun t _ hq => by
  have := Nat.eq_of_beq_eq_true hq
  subst this; simp [Nat.testBit_two_pow_self]
theorem VB.blur {x : AV} {b : BV} (ho : G.om a = k) (hk : h.get a = some kb) (hc : kb.cells[p]? = some c0) (hs : SameK c0 c1) (v : VB G h x b) (hb : BlV (2 ^ k) b) : VB G (h.put a ⟨kb.ty, kb.cells.set p c1⟩) x b := by
  have hfree : ∀ {x b}, VB G h x b → b.free (2 ^ k) 0 = true → VB G (h.put a ⟨kb.ty, kb.cells.set p c1⟩) x b := fun v hf => v.keep (go_chg ho hk) wi_one (fun _ _ _ h => h) hf
  induction hb generalizing x with
  | free hf => exact hfree v hf
  | ls hf =>
    cases v with
    | sc hs => have := toA_iff.2 hs; cases this
    | lsN => exact .lsN
    | lsA ha hk' hq hm hw hl hs' hp hr =>
      obtain ⟨k', cs', q1, q2, q3, q4⟩ := chg_part hk hc hs hk' hp
      exact .lsA ha q1 hq hm hw hl hs' q2 (hr.blur hk hc hs q3 q4 hf)
    | lsO hm hl hs1 hs' hr => exact .lsO ⟨hm.1, hm.2⟩ hl hs1 hs' (hr.blur hk hc hs rfl (fun i x hx => ⟨x, hx, .inl rfl⟩) hf)
  | ro hf =>
    cases v with
    | sc hs => have := toA_iff.2 hs; cases this
    | roA ha hk' hm hp hr =>
      obtain ⟨k', cs', q1, q2, q3, q4⟩ := chg_part hk hc hs hk' hp
      exact .roA ha q1 hm q2 (hr.blur hk hc hs q3 q4 hf)
    | roO hm hr => exact .roO ⟨hm.1, hm.2⟩ (hr.blur hk hc hs rfl (fun i x hx => ⟨x, hx, .inl rfl⟩) hf)
  | agg hf ih =>
    obtain ⟨as, rfl, h3⟩ := v.agg_inv
    exact .agg h3.1 fun i a b ha hb => ih b (List.mem_of_getElem? hb) (h3.2 i a b ha hb)
  | tup hf ih =>
    obtain ⟨as, rfl, h3⟩ := v.tup_inv
    exact .tup h3.1 fun i a b ha hb => ih b (List.mem_of_getElem? hb) (h3.2 i a b ha hb)
end
section
variable {G : Gh} {T : Nat → Option TI} {ZB : Nat → Option (List BV)} {call : CallF} {bx : List Nat} {ops : List Oper} {bs : Base} {pk pk' : List Nat} {l : List (Oper × List Nat)} {o : Oper} {ws : List Nat} {sl env : List (Nat × BSlot)} {lo ob df : List (Nat × List BV)} {s s' : BS} {Q : QN} {Qp : QP} {d : Nat} {y : BSlot} {v : BV} {r : RS}
def stW : BV → BV → Bool
  | .ai k, .int j _ => k == j
  | .sx, .str _ => true
  | _, _ => false
theorem xb_storeW {t off k m : Nat} {a x : Operand} {ti : TI} {cs : List BV} {c : BV} (hm : 2 ^ k = m) (hw : wantB ops env o = some true) (ho : o.op = .store t a x) (hd : o.dst = none) (hT : T t = some ti) (ha : BS.slot ⟨sl, env, lo, ob, df⟩ a = some (.v (.ro cs off m))) (hc : cs[off]? = some c) (hv : BS.valT ZB ⟨sl, env, lo, ob, df⟩ t x = some v)
    (h1 : stW c v = true) (hsz : Nat.beq 1 ti.size = true) (hP : loc k = true ∨ bs.P k = true) (hs : AllS m sl) (he : AllS m env) (hl : AllL m lo) (hob : AllL m ob) (hdf : AllL m df) (hpk : pkSs ops ⟨sl, env, lo, ob, df⟩ (fun t => Nat.beq t (128 + k)) pk = true) (hno : lkp ob (128 + k) = none) (hk : subN ws pk = true)
    (h : XRB T call bx ops bs pk l ⟨sl, env, lo, ob, df⟩ Q Qp) : XRB T call bx ops bs pk ((o, ws) :: l) ⟨sl, env, lo, ob, df⟩ Q Qp := by
  subst hm
  refine xb_step (pk' := pk) hw (fun G r hr hcg hp => ?_) hk h
  obtain ⟨b, b1, b2⟩ := hr.valT hv
  obtain ⟨w, w1, w2⟩ := hr.slot ha
  cases w2 with
  | v hv2 =>
  cases hv2 with
  | sc hs => have := toA_iff.2 hs; cases this
  | roO hm hr' => exact (hcg.noOld hP hm).elim
  | @roA ab bb _ kb _ as _ hab hkb hmb hpb hrb =>
  have hom : G.om ab = k := by
    have := hmb.2
    rw [Nat.testBit_two_pow] at this
    exact (of_decide_eq_true this).symm
  obtain ⟨c0, z1, z2⟩ := L2.get hrb hc
  have hsk : SameK c0 b ∧ b.cells = [b] := by
    revert h1
    cases c with
    | ai kk =>
      cases v with
      | int jj n =>
        intro h1
        have e : kk = jj := by simpa [stW] using h1
        subst e
        have : b = .int kk n := b2.int
        subst this
        cases z2 with
        | sc hs => have := toA_iff.2 hs; cases this
        | ai => exact ⟨.i, rfl⟩
      | _ => intro h1; cases h1
    | sx =>
      cases v with
      | str q =>
        intro _
        have : b = .str q := b2.str
        subst this
        cases z2 with
        | sc hs => have := toA_iff.2 hs; cases this
        | sx => exact ⟨.s, rfl⟩
      | _ => intro h1; cases h1
    | _ => intro h1; cases v <;> cases h1
  obtain ⟨hsk, hcl⟩ := hsk
  rw [part_eq, partG_some] at hpb
  have hoff : off < as.length := (List.getElem?_eq_some_iff.1 z1).1
  have hal : as.length = cs.length := hrb.1
  have hcell : kb.cells[bb + off]? = some c0 := by
    rw [hpb.2, List.getElem?_take, List.getElem?_drop, if_pos (by omega)] at z1
    exact z1
  have hlt : bb + off < kb.cells.length := (List.getElem?_eq_some_iff.1 hcell).1
  have hwr : wr kb.cells (bb + off) b.cells = some (kb.cells.set (bb + off) b) := by
    rw [hcl, wr_eq, wrG_some]
    refine ⟨by simp; omega, ?_⟩
    rw [List.set_eq_take_append_cons_drop, if_pos hlt]
    simp
  have hall : (Nat.beq b.cells.length ti.size && b.cells.all AV.one) = true := by
    rw [hcl]
    simp only [List.length_cons, List.length_nil, List.all_cons, List.all_nil, hsk.one, Bool.and_true]
    exact hsz
  have kv : ∀ {x y}, VB G r.hp x y → BlV (2 ^ k) y → VB G (r.hp.put ab ⟨kb.ty, kb.cells.set (bb + off) b⟩) x y := fun v hb => v.blur hom hkb hcell hsk hb
  have kvs : ∀ {x : List AV} {y : List BV}, VBs G r.hp x y → (∀ v ∈ y, BlV (2 ^ k) v) → VBs G (r.hp.put ab ⟨kb.ty, kb.cells.set (bb + off) b⟩) x y := fun v hb => v.imp fun a b hm q => kv q (hb b hm)
  have ks : ∀ {x y}, SlotB G r.hp x y → BlS (2 ^ k) y → SlotB G (r.hp.put ab ⟨kb.ty, kb.cells.set (bb + off) b⟩) x y := fun v hb => by
    cases v with
    | v hv => exact .v (kv hv hb)
    | lr => exact .lr
    | nv => exact .nv
    | nn => exact .nn
  have g := go_chg (c1 := b) (p := bb + off) hom hkb
  refine ⟨{ r with hp := r.hp.put ab ⟨kb.ty, kb.cells.set (bb + off) b⟩ }, G, by simp only [oop, ho, oStore, hT, w1, b1, hall, cond_true, RS.wrt, hkb, hwr, Option.map_some, hd, RS.put], ?_, hcg.step g (fun a ha hq => ?_) (fun _ _ => rfl), pk_hp hr g (fun t ht => beq_ne fun e => ?_) hpk hp⟩
  · refine ⟨hr.env.imp fun x y hm hx => ⟨hx.1, ks hx.2 (he y hm)⟩, fun t y hy => ?_, fun u c hc => ?_, fun t c hc => ?_, hr.df.imp fun x y hm hx => ⟨hx.1, kvs hx.2 (hdf y hm)⟩⟩
    · obtain ⟨x, x1, x2⟩ := hr.sl t y hy; exact ⟨x, x1, ks x2 (hs _ (lkp_mem hy))⟩
    · obtain ⟨x, x1, x2⟩ := hr.lo u c hc; exact ⟨x, x1, kvs x2 (hl _ (lkp_mem hc))⟩
    · rcases hr.ob t c hc with z | ⟨a2, b2, k2, c2, z1, z2, z3, z4, z5, z6⟩
      · exact .inl z
      refine .inr ⟨a2, b2, k2, c2, z1, z2, ?_, z4, z5, kvs z6 (hob _ (lkp_mem hc))⟩
      rw [Hp.get_put, if_neg]
      · exact z3
      · rintro rfl
        have hk999 : k < 1000 := by rw [← hom]; exact hmb.1
        have : tg t = tg (128 + k) := by rw [← z4, hom, tg_mid (by omega) (by omega)]; omega
        rw [tg_inj this, hno] at hc; cases hc
  · have he := Nat.eq_of_beq_eq_true hq
    rcases hP with hP | hP
    · exact (hcg.young hP ha he).elim
    · rw [he]; exact hP
  · have hk999 : k < 1000 := by rw [← hom]; exact hmb.1
    have h2 : tg t = tg (128 + k) := by rw [e, tg_mid (by omega) (by omega)]; omega
    rw [tg_inj h2] at ht; simp at ht
end
end Go.Eng

/- ENGINE 57: a list of one's own, opened: its rows may be written. -/
set_option linter.unusedVariables false
set_option linter.unusedSimpArgs false
namespace Go.Eng
open Go

/-! #### Rows, laid flat -/
section
variable {α : Type} {row row' : α → List BV} {sz : Nat}
theorem idx_get {l : List α} {i : Int} {x : α} (h : idx l i = some x) : 0 ≤ i ∧ l[i.toNat]? = some x := by
  unfold idx at h
  split at h
  · rename_i hi; exact ⟨hi, h⟩
  · cases h
theorem flat_split (hrow : ∀ y, (row y).length = sz) {l : List α} {i : Nat} {x : α} (hx : l[i]? = some x) : (l.map row).flatten = ((l.take i).map row).flatten ++ (row x ++ ((l.drop (i + 1)).map row).flatten) ∧ ((l.take i).map row).flatten.length = i * sz := by
  have hi : i < l.length := (List.getElem?_eq_some_iff.1 hx).1
  have hx' : l[i] = x := (List.getElem?_eq_some_iff.1 hx).2
  constructor
  · conv => lhs; rw [← List.take_append_drop i l]
    rw [List.map_append, List.flatten_append, List.drop_eq_getElem_cons hi, hx', List.map_cons, List.flatten_cons]
  · have : ∀ l : List α, (l.map row).flatten.length = l.length * sz := fun l => by
      induction l with
      | nil => simp
      | cons a l ih => rw [List.map_cons, List.flatten_cons, List.length_append, ih, hrow, List.length_cons, Nat.succ_mul, Nat.add_comm]
    rw [this, List.length_take, Nat.min_eq_left (by omega)]
theorem flat_part' (hrow : ∀ y, (row y).length = sz) {l : List α} {i : Int} {x : α} (hx : idx l i = some x) {off n : Nat} {c : List BV} (hp : partG (row x) off n = some c) : partG (l.map row).flatten (i.toNat * sz + off) n = some c := by
  obtain ⟨h1, h2⟩ := flat_split hrow (idx_get hx).2
  rw [partG_some] at hp ⊢
  obtain ⟨p1, p2⟩ := hp
  rw [h1]
  refine ⟨by rw [List.length_append, List.length_append, h2]; omega, ?_⟩
  rw [← h2, ← List.drop_drop, List.drop_append_of_le_length (by omega), List.drop_of_length_le (Nat.le_refl _), List.nil_append, List.drop_append_of_le_length (by omega), List.take_append_of_le_length (by rw [List.length_drop]; omega)]
  exact p2
theorem flat_wr (hrow : ∀ y, (row y).length = sz) {l : List α} {i : Int} {x x' : α} (hx : idx l i = some x) {off : Nat} {us : List BV} (hw : wrG (row x) off us = some (row x')) : wrG (l.map row).flatten (i.toNat * sz + off) us = some ((l.set i.toNat x').map row).flatten := by
  have hg := (idx_get hx).2
  have hi : i.toNat < l.length := (List.getElem?_eq_some_iff.1 hg).1
  obtain ⟨h1, h2⟩ := flat_split hrow hg
  have hx' : (l.set i.toNat x')[i.toNat]? = some x' := by rw [List.getElem?_set_self hi]
  obtain ⟨k1, k2⟩ := flat_split hrow hx'
  rw [wrG_some] at hw ⊢
  obtain ⟨w1, w2⟩ := hw
  rw [k1, List.take_set_of_le (Nat.le_refl _), List.drop_set_of_lt (by omega), h1]
  refine ⟨by rw [List.length_append, List.length_append, h2]; omega, ?_⟩
  rw [w2]
  have e1 : (((l.take i.toNat).map row).flatten ++ (row x ++ ((l.drop (i.toNat + 1)).map row).flatten)).take (i.toNat * sz + off) = ((l.take i.toNat).map row).flatten ++ (row x).take off := by
    rw [List.take_append, h2, List.take_of_length_le (by omega), show i.toNat * sz + off - i.toNat * sz = off from by omega, List.take_append_of_le_length (by omega)]
  have e2 : (((l.take i.toNat).map row).flatten ++ (row x ++ ((l.drop (i.toNat + 1)).map row).flatten)).drop (i.toNat * sz + off + us.length) = (row x).drop (off + us.length) ++ ((l.drop (i.toNat + 1)).map row).flatten := by
    rw [List.drop_append, h2, List.drop_of_length_le (by omega), List.nil_append, show i.toNat * sz + off + us.length - i.toNat * sz = off + us.length from by omega, List.drop_append_of_le_length (by omega)]
  rw [e1, e2]
  simp only [List.append_assoc]
theorem wkc_app : ∀ {a b c d : List BV}, WkC a b → WkC c d → WkC (a ++ c) (b ++ d)
  | _, _, _, _, .nil, k => k
  | _, _, _, _, .cons h j, k => .cons h (wkc_app j k)
theorem wkc_flat (hwk : ∀ y, WkC (row y) (row' y)) : ∀ l : List α, WkC (l.map row).flatten (l.map row').flatten
  | [] => .nil
  | x :: l => by
    rw [List.map_cons, List.map_cons, List.flatten_cons, List.flatten_cons]
    exact wkc_app (hwk x) (wkc_flat hwk l)
theorem map_flat {f : BV → BV} (h : ∀ x, (row x).map f = row' x) (l : List α) : (l.map row).flatten.map f = (l.map row').flatten := by
  rw [List.map_flatten, List.map_map]
  congr 1
  exact List.map_congr_left fun x _ => h x
theorem all_flat {p : BV → Bool} (h : ∀ x, (row x).all p = true) (l : List α) : (l.map row).flatten.all p = true := by
  rw [List.all_flatten, List.all_eq_true]
  intro r hr
  obtain ⟨x, _, rfl⟩ := List.mem_map.1 hr
  exact h x
end
theorem frees_app {U D : Nat} : ∀ {l m : List BV}, BV.free.frees U D l = true → BV.free.frees U D m = true → BV.free.frees U D (l ++ m) = true
  | [], _, _, k => k
  | v :: l, m, h, k => by
    simp only [BV.free.frees, Bool.and_eq_true] at h
    simp only [List.cons_append, BV.free.frees, Bool.and_eq_true]
    exact ⟨h.1, frees_app h.2 k⟩
theorem frees_flat {α : Type} {row : α → List BV} {U D : Nat} (h : ∀ x, BV.free.frees U D (row x) = true) : ∀ l : List α, BV.free.frees U D (l.map row).flatten = true
  | [] => rfl
  | x :: l => by
    rw [List.map_cons, List.flatten_cons]
    exact frees_app (h x) (frees_flat h l)

/-! #### Open, close -/
theorem open_val {G : Gh} {h : Hp} {a : AV} {es : List (List BV)} {sz k m : Nat} (hk9 : k < 1000) (v : VB G h a (.ls es sz (k + 1) m)) : ∃ G' : Gh, G'.om = G.om ∧ (∀ t, t ≠ 128 + k → G'.pi t = G.pi t) ∧ VB G' h a (.sl (128 + k) 0 es.length sz) ∧ ObR G' h (128 + k) (es.flatten.map (BV.withm m)) := by
  cases v with
  | sc hs => have := toA_iff.2 hs; cases this
  | lsN => exact ⟨⟨G.om, upN G.pi (128 + k) none⟩, rfl, fun t ht => upN_ne ht, .sl0, .inl ⟨by omega, rfl, upN_eq⟩⟩
  | @lsA a off len _ cap kb _ cs _ _ ha hk hq hm ho hl hs hp hr =>
    refine ⟨⟨G.om, upN G.pi (128 + k) (some (a, off))⟩, rfl, fun t ht => upN_ne ht, ?_, .inr ⟨a, off, kb, cs, upN_eq, ha, hk, ?_, ?_, VNs.top hr⟩⟩
    · rw [hl]
      exact .sl (b := off) (off := 0) upN_eq
    · have := ho (by omega)
      rw [tg_mid (by omega) (by omega)]
      show G.om a = _
      omega
    · rw [List.length_map, flat_lenG sz es hs, hl]
      rw [part_eq] at hp
      exact hp
section
variable {G : Gh} {T : Nat → Option TI} {ZB : Nat → Option (List BV)} {call : CallF} {bx : List Nat} {ops : List Oper} {bs : Base} {pk pk' : List Nat} {l : List (Oper × List Nat)} {o : Oper} {ws : List Nat} {sl sl' env env' : List (Nat × BSlot)} {lo lo' ob ob' df df' : List (Nat × List BV)} {s s' : BS} {Q : QN} {Qp : QP} {d : Nat} {y : BSlot} {v : BV} {r : RS}
theorem open_rep {k sz m : Nat} {es : List (List BV)} {a : AV} (hk9 : k < 1000) (hh : hi (128 + k) = false) (hr : RepB G ⟨sl, env, lo, ob, df⟩ r) (hc : Cg bs G r.hp) (hv : VB G r.hp a (.ls es sz (k + 1) m)) :
    ∃ G', RepB G' ⟨frS 0 (2 ^ (128 + k)) sl, frS 0 (2 ^ (128 + k)) env, frL 0 (2 ^ (128 + k)) lo, (128 + k, es.flatten.map (BV.withm m)) :: frO 0 (2 ^ (128 + k)) (fun _ => false) ob, frL 0 (2 ^ (128 + k)) df⟩ r ∧ Cg bs G' r.hp ∧ VB G' r.hp a (.sl (128 + k) 0 es.length sz) ∧ (∀ {x y}, VB G r.hp x y → y.free 0 (2 ^ (128 + k)) = true → VB G' r.hp x y) := by
  obtain ⟨G', e1, e2, e3, e4⟩ := open_val hk9 hv
  have g : Go1 (fun _ => false) G.om G'.om r.hp r.hp := by rw [e1]; exact .refl _ _ _
  have hpe : ∀ t, (2 ^ (128 + k)).testBit t = false → G'.pi t = G.pi t := fun t ht => e2 t (by rintro rfl; simp [Nat.testBit_two_pow_self] at ht)
  have hf := hr.fr (G' := G') (h' := r.hp) (U := 0) (D := 2 ^ (128 + k)) (O := fun _ => false) g (fun t _ hq => by cases hq) (fun _ _ => rfl) hpe
  refine ⟨G', ⟨hf.env, hf.sl, hf.lo, fun t c hc => ?_, hf.df⟩, hc.step g (fun a ha hq => by cases hq) (fun t ht => e2 t (by rintro rfl; rw [hh] at ht; cases ht)), e3, fun v hfr => v.keep (U := 0) (D := 2 ^ (128 + k)) g (fun t _ hq => by cases hq) (fun t x ht hx => (hpe t ht).trans hx) hfr⟩
  simp only [lkp] at hc
  cases ht : Nat.beq (128 + k) t with
  | true =>
    have := Nat.eq_of_beq_eq_true ht
    subst this
    rw [ht] at hc
    simp only [cond_true, Option.some.injEq] at hc; subst hc
    exact e4
  | false => rw [ht] at hc; exact hf.ob t c hc
/-- A slice that lies in a temporary between regions. -/
theorem xb_openS {t k sz m n : Nat} {es : List (List BV)} {cells : List BV} (k0 : Nat.blt k 172 = true) (hx : lkp sl t = some (.v (.ls es sz (k + 1) m))) (hn : es.length = n) (hc : es.flatten.map (BV.withm m) = cells) (h1 : setp (frS 0 (2 ^ (128 + k)) sl) t (.v (.sl (128 + k) 0 n sz)) = sl') (h2 : frS 0 (2 ^ (128 + k)) env = env') (h3 : frL 0 (2 ^ (128 + k)) lo = lo') (h4 : frO 0 (2 ^ (128 + k)) (fun _ => false) ob = ob') (h5 : frL 0 (2 ^ (128 + k)) df = df')
    (h : XRB T call bx ops bs pk l ⟨sl', env', lo', (128 + k, cells) :: ob', df'⟩ Q Qp) : XRB T call bx ops bs pk l ⟨sl, env, lo, ob, df⟩ Q Qp := by
  subst hn hc h1 h2 h3 h4 h5
  intro G r hr hcg hp
  rw [Nat.blt, Nat.ble_eq] at k0
  obtain ⟨x, x1, x2⟩ := hr.sl t _ hx
  cases x2 with
  | v hv =>
  obtain ⟨G', q1, q2, q3, _⟩ := open_rep (by omega) (by
    cases hh : hi (128 + k) with
    | false => rfl
    | true => simp only [hi, Bool.or_eq_true, Bool.and_eq_true, Nat.ble_eq, Nat.blt] at hh; omega) hr hcg hv
  refine h G' r ⟨q1.env, fun u y hy => ?_, q1.lo, q1.ob, q1.df⟩ q2 hp
  simp only [lkp_setp] at hy
  split at hy
  · rename_i hu; cases hy; subst hu; exact ⟨_, x1, .v q3⟩
  · exact q1.sl u y hy
/-- A slice that lies in a variable of the frame's own. -/
theorem xb_openL {u i k sz m n : Nat} {es : List (List BV)} {cells c : List BV} (k0 : Nat.blt k 172 = true) (hx : lkp lo u = some c) (hi' : c[i]? = some (.ls es sz (k + 1) m)) (hn : es.length = n) (hc : es.flatten.map (BV.withm m) = cells) (h1 : frS 0 (2 ^ (128 + k)) sl = sl') (h2 : frS 0 (2 ^ (128 + k)) env = env') (h3 : setp (frL 0 (2 ^ (128 + k)) lo) u ((frV 0 (2 ^ (128 + k)) c).set i (.sl (128 + k) 0 n sz)) = lo') (h4 : frO 0 (2 ^ (128 + k)) (fun _ => false) ob = ob') (h5 : frL 0 (2 ^ (128 + k)) df = df')
    (h : XRB T call bx ops bs pk l ⟨sl', env', lo', (128 + k, cells) :: ob', df'⟩ Q Qp) : XRB T call bx ops bs pk l ⟨sl, env, lo, ob, df⟩ Q Qp := by
  subst hn hc h1 h2 h3 h4 h5
  intro G r hr hcg hp
  rw [Nat.blt, Nat.ble_eq] at k0
  obtain ⟨ca, x1, x2⟩ := hr.lo u _ hx
  obtain ⟨a, a1, a2⟩ := x2.get hi'
  obtain ⟨G', q1, q2, q3, q4⟩ := open_rep (by omega) (by
    cases hh : hi (128 + k) with
    | false => rfl
    | true => simp only [hi, Bool.or_eq_true, Bool.and_eq_true, Nat.ble_eq, Nat.blt] at hh; omega) hr hcg a2
  refine h G' r ⟨q1.env, q1.sl, fun w y hy => ?_, q1.ob, q1.df⟩ q2 hp
  simp only [lkp_setp] at hy
  split at hy
  · rename_i hu
    cases hy
    subst hu
    obtain ⟨cb, y1, y2⟩ := q1.lo w (frV 0 (2 ^ (128 + k)) c) (by
      have : ∀ {l : LO} {t : Nat} {c : List BV}, lkp l t = some c → lkp (frL 0 (2 ^ (128 + k)) l) t = some (frV 0 (2 ^ (128 + k)) c) := by
        intro l
        induction l with
        | nil => intro t c h; simp [lkp] at h
        | cons p l ih =>
          intro t c h
          obtain ⟨u, q⟩ := p
          simp only [frL, lkp] at h ⊢
          cases hu : Nat.beq u t with
          | true => rw [hu] at h; simp only [cond_true, Option.some.injEq] at h ⊢; rw [h]
          | false => rw [hu] at h; exact ih h
      exact this hx)
    rw [x1] at y1
    cases y1
    refine ⟨ca, x1, ?_⟩
    refine ⟨by simpa using y2.1, fun j p q hp hq => ?_⟩
    rw [List.getElem?_set] at hq
    split at hq
    · rename_i hj
      split at hq
      · cases hq; rw [← hj, a1] at hp; cases hp; exact q3
      · cases hq
    · exact y2.2 j p q hp hq
  · exact q1.lo w y hy
end
end Go.Eng

/- ENGINE 58: rows of an open list: read, written; the list closed. -/
set_option linter.unusedVariables false
set_option linter.unusedSimpArgs false
namespace Go.Eng
open Go

/-! #### Closed -/
/-- How values are told again as lists. -/
inductive CloV (k : Nat) (es : List (List BV)) (sz m : Nat) : BV → BV → Prop
  | refl {v} : CloV k es sz m v v
  | sl {n} (hn : n = es.length) : CloV k es sz m (.sl (128 + k) 0 n sz) (.ls es sz (k + 1) m)
  | ro {i off p row m'} (hr : es[i]? = some row) (hp : p = i * sz + off) (hm : subM (m ||| 2 ^ k) m' = true) : CloV k es sz m (.ptr (128 + k) p) (.ro row off m')
  | any {v} : CloV k es sz m v .any
inductive CloC (k : Nat) (es : List (List BV)) (sz m : Nat) : List BV → List BV → Prop
  | nil : CloC k es sz m [] []
  | cons {a b l l'} (h : CloV k es sz m a b) (hk : CloC k es sz m l l') : CloC k es sz m (a :: l) (b :: l')
theorem CloC.refl {k sz m : Nat} {es : List (List BV)} : ∀ {l : List BV}, CloC k es sz m l l
  | [] => .nil
  | _ :: _ => .cons .refl CloC.refl
inductive CloS (k : Nat) (es : List (List BV)) (sz m : Nat) : BSlot → BSlot → Prop
  | refl {x} : CloS k es sz m x x
  | v {a b} (h : CloV k es sz m a b) : CloS k es sz m (.v a) (.v b)
  | a {c d} (h : CloC k es sz m c d) : CloS k es sz m (.v (.agg c)) (.v (.agg d))
def SubO (k : Nat) (es : List (List BV)) (sz m : Nat) (l l' : SL) : Prop := ∀ t y, lkp l t = some y → ∃ x, lkp l' t = some x ∧ CloS k es sz m x y
theorem SubO.nil {k sz m : Nat} {es : List (List BV)} {l' : SL} : SubO k es sz m [] l' := fun t y h => by simp [lkp] at h
theorem SubO.refl {k sz m : Nat} {es : List (List BV)} {l' : SL} : SubO k es sz m l' l' := fun t y h => ⟨y, h, .refl⟩
theorem SubO.cons {k sz m n : Nat} {es : List (List BV)} {x y : BSlot} {l l' : SL} (h : lkp l' n = some x) (w : CloS k es sz m x y) (hs : SubO k es sz m l l') : SubO k es sz m ((n, y) :: l) l' := by
  intro t z hz
  simp only [lkp] at hz
  cases hn : Nat.beq n t with
  | true =>
    have := Nat.eq_of_beq_eq_true hn
    subst this
    rw [hn] at hz
    cases hz
    exact ⟨x, h, w⟩
  | false => rw [hn] at hz; exact hs t z hz
def SubOC (k : Nat) (es : List (List BV)) (sz m : Nat) (l l' : LO) : Prop := ∀ t y, lkp l t = some y → ∃ x, lkp l' t = some x ∧ CloC k es sz m x y
theorem SubOC.nil {k sz m : Nat} {es : List (List BV)} {l' : LO} : SubOC k es sz m [] l' := fun t y h => by simp [lkp] at h
theorem SubOC.refl {k sz m : Nat} {es : List (List BV)} {l' : LO} : SubOC k es sz m l' l' := fun t y h => ⟨y, h, .refl⟩
theorem SubOC.cons {k sz m n : Nat} {es : List (List BV)} {x y : List BV} {l l' : LO} (h : lkp l' n = some x) (w : CloC k es sz m x y) (hs : SubOC k es sz m l l') : SubOC k es sz m ((n, y) :: l) l' := by
  intro t z hz
  simp only [lkp] at hz
  cases hn : Nat.beq n t with
  | true =>
    have := Nat.eq_of_beq_eq_true hn
    subst this
    rw [hn] at hz
    cases hz
    exact ⟨x, h, w⟩
  | false => rw [hn] at hz; exact hs t z hz
/-- The same for a region's temporaries: all of them, in their order. -/
inductive EnvO (k : Nat) (es : List (List BV)) (sz m : Nat) : SL → SL → Prop
  | nil : EnvO k es sz m [] []
  | cons {n x y l l'} (h : CloS k es sz m x y) (hk : EnvO k es sz m l l') : EnvO k es sz m ((n, x) :: l) ((n, y) :: l')
theorem EnvO.refl {k sz m : Nat} {es : List (List BV)} : ∀ {l : SL}, EnvO k es sz m l l
  | [] => .nil
  | _ :: _ => .cons .refl EnvO.refl
theorem wkc_nil {b : List BV} (h : WkC [] b) : b = [] := by cases h; rfl
section
variable {α : Type} {G : Gh} {T : Nat → Option TI} {ZB : Nat → Option (List BV)} {call : CallF} {bx : List Nat} {ops : List Oper} {bs : Base} {pk pk' : List Nat} {l : List (Oper × List Nat)} {o : Oper} {ws : List Nat} {sl sl' env env' : List (Nat × BSlot)} {lo lo' ob ob' df df' : List (Nat × List BV)} {s s' : BS} {Q : QN} {Qp : QP} {d : Nat} {y : BSlot} {v : BV} {r : RS} {h h' : Hp}
theorem rd_obj {t x b off n : Nat} {c m : List BV} (o : ObX G h t c) (hpi : G.pi t = some (x, b)) (hp : partG c off n = some m) : ∃ kb as, h.get x = some kb ∧ part kb.cells (b + off) n = some as ∧ VBs G h as m := by
  obtain ⟨a, b', k, ca, q1, q2, q3, q4, q5, q6⟩ := o
  rw [hpi] at q1
  simp only [Option.some.injEq, Prod.mk.injEq] at q1
  obtain ⟨rfl, rfl⟩ := q1
  obtain ⟨as, h3, h4⟩ := q6.part hp
  refine ⟨k, as, q3, ?_, h4⟩
  rw [part_eq]
  rw [partG_some] at q5 h3 hp ⊢
  have hl := hp.1
  refine ⟨by have := q5.1; omega, ?_⟩
  rw [h3.2, q5.2, List.drop_take, List.take_take, List.drop_drop]
  congr 1
  omega
theorem flat_ne {row : α → List BV} {sz : Nat} {L : List α} {i : Int} {x : α} {off n : Nat} {c : List BV} (hrow : ∀ y, (row y).length = sz) (hx : idx L i = some x) (hp : partG (row x) off n = some c) (hn : 0 < n) : (L.map row).flatten ≠ [] := by
  intro he
  have := flat_part' hrow hx hp
  rw [he, partG_some] at this
  have h1 := this.1
  simp at h1
  omega
/-- A row's part is read. -/
theorem pLoadE {row : α → List BV} {sz k : Nat} {t off p : Nat} {a : Operand} {L : List α} {i : Int} {x : α} {ti : TI} {cs : List BV} {b : BV} (hx : idx L i = some x) (hs : s.slot a = some (.v (.ptr (128 + k) p))) (hpe : i.toNat * sz + off = p) (hl : lkp s.ob (128 + k) = some (L.map row).flatten) (hrow : ∀ y, (row y).length = sz) (hT : T t = some ti) (hz : Nat.blt 0 ti.size = true) (hpart : partG (row x) off ti.size = some cs) (hb : mkB ti cs = some b) : POpB T s (.load t a) (.v b) := by
  subst hpe
  intro G r hr
  obtain ⟨w, w1, w2⟩ := hr.slot hs
  have hz' : 0 < ti.size := by rw [Nat.blt, Nat.ble_eq] at hz; omega
  have hfp := flat_part' hrow hx hpart
  have ho : ObX G r.hp (128 + k) (L.map row).flatten := by
    rcases hr.ob _ _ hl with z | z
    · exact absurd z.2.1 (flat_ne hrow hx hpart hz')
    · exact z
  cases w2 with
  | v hv =>
    obtain ⟨xx, bb, rfl, h1⟩ := hv.ptr_inv
    obtain ⟨kb, as, z1, z2, z3⟩ := rd_obj ho h1 hfp
    obtain ⟨va, m1, m2⟩ := mkB_sound z3 hb
    exact ⟨.v va, by simp only [rop, rLoad, hT, w1, RS.rd, z1, z2, m1, Option.map_some], .v m2⟩
/-- A row's place. -/
theorem pIdxO {row : α → List BV} {sz k n' e bytes : Nat} {ez : List AV} {t : Nat} {x i : Operand} {kk : IntKind} {n : Int} {L : List α} {a : α} {ti : TI} (hg : idx L n = some a) (hx : s.slot x = some (.v (.sl (128 + k) 0 n' sz))) (hi : s.val i = some (.int kk n)) (hn : n' = L.length) (hT : T t = some ti) (hk : ti.k = .sl e sz bytes ez) : POpB T s (.indexAddr t x i) (.v (.ptr (128 + k) (n.toNat * sz + 0))) := by
  intro G r hr
  obtain ⟨w, w1, w2⟩ := hr.slot hx
  obtain ⟨u, u1, u2⟩ := hr.val hi
  have := u2.int
  subst this
  obtain ⟨h0, h1⟩ := idx_get hg
  have hlt : n.toNat < L.length := (List.getElem?_eq_some_iff.1 h1).1
  cases w2 with
  | v hv =>
    cases hv with
    | sc hs => have := toA_iff.2 hs; cases this
    | @sl _ aa bb off len sz cap hp =>
      refine ⟨.v (.ptr aa (bb + 0 + n.toNat * sz)), ?_, .v (.ptr (b := bb) (o := n.toNat * sz) hp)⟩
      simp only [rop, rIndexAddr, w1, u1, idxF, hT, hk]
      rw [if_pos ⟨h0, by omega⟩, beq_self, cond_true]
    | sl0 => omega
/-- How long an open list is. -/
theorem pLenO {t k n off sz : Nat} {x : Operand} {args : Array Operand} {ts : Array Nat} {ti : TI} {e sz' bytes : Nat} {ez : List AV} (ha : args.toList = [x]) (ht : ts.toList = [t]) (hx : s.val x = some (.sl k off n sz)) (hT : T t = some ti) (hk : ti.k = .sl e sz' bytes ez) : POpB T s (.call ⟨.builtin .len, args, ts⟩) (.v (.int .i64 ((n : Nat) : Int))) := by
  intro G r hr
  obtain ⟨w, w1, w2⟩ := hr.val hx
  have hl : lenF T t w = some n := by
    cases w2 with
    | sc hs => have := toA_iff.2 hs; cases this
    | sl => simp only [lenF, hT, hk]
    | sl0 => simp only [lenF, hT, hk]
  exact ⟨.v (.int .i64 ((n : Nat) : Int)), by simp only [rop, rCall, rBuiltin, rLen, ha, ht, w1, hl, Option.map_some], .v (.sc rfl)⟩
/-- A row's part is written. -/
theorem xb_storeE {row row' : α → List BV} {sz k : Nat} {t off p : Nat} {a xo : Operand} {L : List α} {i : Int} {x x' : α} {ti : TI} {us : List BV} (hx : idx L i = some x) (x' : α) (us : List BV) (hw : wantB ops env o = some true) (ho : o.op = .store t a xo) (hd : o.dst = none) (hT : T t = some ti) (ha : BS.slot ⟨sl, env, lo, ob, df⟩ a = some (.v (.ptr (128 + k) p))) (hpe : i.toNat * sz + off = p) (hv : BS.valT ZB ⟨sl, env, lo, ob, df⟩ t xo = some v)
    (h1 : (Nat.beq v.cells.length ti.size && v.cells.all BV.one) = true) (hz : Nat.blt 0 ti.size = true) (hl : lkp ob (128 + k) = some (L.map row).flatten) (hrow : ∀ y, (row' y).length = sz) (hwk : ∀ y, WkC (row y) (row' y)) (hus : WkC v.cells us) (hwr : wrG (row' x) off us = some (row' x')) (hfr : ∀ y, BV.free.frees (2 ^ k) 0 (row' y) = true) (hP : loc k = true ∨ bs.P k = true) (hk9 : Nat.blt k 1000 = true) (hk : ws = [])
    (e1 : frS (2 ^ k) 0 sl = sl') (e2 : frS (2 ^ k) 0 env = env') (e3 : frL (2 ^ k) 0 lo = lo') (e4 : frO (2 ^ k) 0 (fun t => Nat.beq t (128 + k)) ob = ob') (e5 : frL (2 ^ k) 0 df = df')
    (h : XRB T call bx ops bs [] l ⟨sl', env', lo', (128 + k, ((L.set i.toNat x').map row').flatten) :: ob', df'⟩ Q Qp) : XRB T call bx ops bs pk ((o, ws) :: l) ⟨sl, env, lo, ob, df⟩ Q Qp := by
  subst hk hpe e1 e2 e3 e4 e5
  refine xb_step (pk' := []) hw (fun G r hr hc hp => ?_) rfl h
  obtain ⟨b, b1, b2⟩ := hr.valT hv
  simp only [Bool.and_eq_true] at h1
  obtain ⟨c1, c2⟩ := b2.cells h1.2
  have hz' : 0 < ti.size := by rw [Nat.blt, Nat.ble_eq] at hz; omega
  have hk' : k < 1000 := by rw [Nat.blt, Nat.ble_eq] at hk9; omega
  have hlen : us.length = ti.size := by
    have : ∀ {a b : List BV}, WkC a b → b.length = a.length := fun w => by
      induction w with
      | nil => rfl
      | cons _ _ ih => simp [ih]
    rw [this hus]; exact Nat.eq_of_beq_eq_true h1.1
  have hfw := flat_wr hrow hx hwr
  have hwf := wkc_flat hwk L
  have ho' : ObX G r.hp (128 + k) (L.map row').flatten := by
    rcases (hr.ob _ _ hl) with z | z
    · exfalso
      have hn : (L.map row').flatten = [] := by
        rw [z.2.1] at hwf; exact wkc_nil hwf
      rw [hn, wrG_some] at hfw
      have := hfw.1
      simp only [List.length_nil] at this
      omega
    · rcases ObR.wk (.inr z) hwf with z' | z'
      · exfalso
        rw [z'.2.1, wrG_some] at hfw
        have := hfw.1
        simp only [List.length_nil] at this
        omega
      · exact z'
  obtain ⟨w, w1, w2⟩ := hr.slot ha
  cases w2 with
  | v hv2 =>
    obtain ⟨a0, b0, rfl, hpi⟩ := hv2.ptr_inv
    obtain ⟨a', b', kb, ca, q1, q2, q3, q4, q5, q6⟩ := ho'
    rw [hpi] at q1
    simp only [Option.some.injEq, Prod.mk.injEq] at q1
    obtain ⟨rfl, rfl⟩ := q1
    rw [tg_mid (by omega) (by omega)] at q4
    have q4' : G.om a0 = k := by omega
    obtain ⟨cs', f1, f2⟩ := q6.wr (VBs.wk c1 hus) hfw
    obtain ⟨cw, g1, g2, g3⟩ := part_wr q5 f1
    have hall : (Nat.beq b.cells.length ti.size && b.cells.all AV.one) = true := by rw [c1.1, h1.1, c2]; rfl
    have g : Go1 (fun t => Nat.beq t k) G.om G.om r.hp (r.hp.put a0 ⟨kb.ty, cw⟩) := ⟨Nat.le_refl _, fun x hx hq => by
      rw [Hp.get_put, if_neg]
      rintro rfl
      rw [q4'] at hq; simp at hq, fun _ _ => rfl⟩
    have hO : ∀ t, (fun t : Nat => Nat.beq t (128 + k)) t = false → (fun t => Nat.beq t k) (tg t) = false := fun t ht => beq_ne fun e => by
      have h2 : tg t = tg (128 + k) := by rw [e, tg_mid (by omega) (by omega)]; omega
      rw [tg_inj h2] at ht; simp at ht
    have hf := hr.fr (G' := G) (U := 2 ^ k) (D := 0) (O := fun t => Nat.beq t (128 + k)) g wi_one hO (fun _ _ => rfl)
    refine ⟨{ r with hp := r.hp.put a0 ⟨kb.ty, cw⟩ }, G, by simp only [oop, ho, oStore, hT, w1, b1, hall, cond_true, RS.wrt, q3, wr_eq, g1, Option.map_some, hd, RS.put], ⟨hf.env, hf.sl, hf.lo, fun t c hc => ?_, hf.df⟩, hc.step g (fun a ha hq => ?_) (fun _ _ => rfl), fun i hi => by simp at hi⟩
    · simp only [lkp] at hc
      cases ht : Nat.beq (128 + k) t with
      | true =>
        have := Nat.eq_of_beq_eq_true ht
        subst this
        rw [ht] at hc
        simp only [cond_true, Option.some.injEq] at hc; subst hc
        refine .inr ⟨a0, b0, ⟨kb.ty, cw⟩, cs', hpi, q2, by rw [Hp.get_put, if_pos rfl], by rw [tg_mid (by omega) (by omega), q4']; omega, ?_, VBs.keep (U := 2 ^ k) (D := 0) g wi_one (fun _ _ _ h => h) f2 (frees_flat hfr _)⟩
        have : (((L.set i.toNat x').map row').flatten).length = ((L.map row').flatten).length := by
          have e := hfw
          rw [wrG_some] at e
          rw [e.2, List.length_append, List.length_append, List.length_take, List.length_drop]; have := e.1
          omega
        rw [this]; exact g2
      | false => rw [ht] at hc; exact hf.ob t c hc
    · have he := Nat.eq_of_beq_eq_true hq
      rcases hP with hP | hP
      · exact (hc.young hP ha he).elim
      · rw [he]; exact hP

theorem VB.clo {k sz m : Nat} {es : List (List BV)} {c : List BV} {a : AV} {b b' : BV} (hk9 : k < 1000) (ho : ObR G h (128 + k) c) (hcm : c.map BV.bare = es.flatten) (hpl : c.all (BV.plain m) = true) (hsz : ∀ r ∈ es, r.length = sz) (hv : VB G h a b) (w : CloV k es sz m b b') : VB G h a b' := by
  cases w with
  | refl => exact hv
  | any => exact .any
  | @sl n hn =>
    have hclen : c.length = es.length * sz := by rw [← flat_lenG sz es hsz, ← hcm, List.length_map]
    cases hv with
    | sc hs => have := toA_iff.2 hs; cases this
    | sl0 => rw [List.eq_nil_of_length_eq_zero hn.symm]; exact .lsN
    | @sl _ aa bb off len sz cap hp =>
      rcases ho with z | ⟨x, b', kb, ca, q1, q2, q3, q4, q5, q6⟩
      · rw [z.2.2] at hp; cases hp
      rw [hp] at q1
      simp only [Option.some.injEq, Prod.mk.injEq] at q1
      obtain ⟨rfl, rfl⟩ := q1
      rw [tg_mid (by omega) (by omega)] at q4
      refine .lsA (cs := ca) q2 q3 (by omega) (fun hh => by omega) (fun _ => by omega) hn.symm hsz ?_ ?_
      · rw [part_eq, hn, ← hclen]; exact q5
      · rw [← hcm]; exact VBs.bare q6 hpl
  | @ro i off p row m' hr hp hm =>
    subst hp
    obtain ⟨x, b0, rfl, hpi⟩ := hv.ptr_inv
    have hclen : c.length = es.length * sz := by rw [← flat_lenG sz es hsz, ← hcm, List.length_map]
    have hrl := hsz row (List.mem_of_getElem? hr)
    have hi : i < es.length := (List.getElem?_eq_some_iff.1 hr).1
    have hmul : i * sz + sz ≤ es.length * sz := by rw [← Nat.succ_mul]; exact Nat.mul_le_mul_right _ (by omega)
    rcases ho with z | ⟨x', b', kb, ca, q1, q2, q3, q4, q5, q6⟩
    · rw [z.2.2] at hpi; cases hpi
    rw [hpi] at q1
    simp only [Option.some.injEq, Prod.mk.injEq] at q1
    obtain ⟨rfl, rfl⟩ := q1
    rw [tg_mid (by omega) (by omega)] at q4
    have hvn : VNs G.om h m ca es.flatten := by rw [← hcm]; exact VBs.bare q6 hpl
    have hfl : partG es.flatten (i * sz) sz = some row := by
      rw [partG_some, flat_lenG sz es hsz]
      exact ⟨hmul, (flat_part sz es _ row hsz hr).symm⟩
    obtain ⟨as, y1, y2⟩ := hvn.part hfl
    have hms : ∀ t, m.testBit t = true → m'.testBit t = true := fun t ht => subM_bit hm (by rw [Nat.testBit_or, ht, Bool.true_or])
    rw [← Nat.add_assoc]
    refine .roA (k := kb) (as := as) q2 q3 ⟨by omega, subM_bit hm (by rw [Nat.testBit_or, show G.om x = k from by omega, Nat.testBit_two_pow_self, Bool.or_true])⟩ ?_ (VN.weaks hms y2)
    rw [part_eq, hrl]
    rw [partG_some] at q5 y1 ⊢
    refine ⟨by have := q5.1; omega, ?_⟩
    rw [y1.2, q5.2, List.drop_take, List.take_take, List.drop_drop]
    congr 1
    omega
theorem VBs.clo {k sz m : Nat} {es : List (List BV)} {c : List BV} (hk9 : k < 1000) (ho : ObR G h (128 + k) c) (hcm : c.map BV.bare = es.flatten) (hpl : c.all (BV.plain m) = true) (hsz : ∀ r ∈ es, r.length = sz) {l : List AV} {x y : List BV} (hv : VBs G h l x) (w : CloC k es sz m x y) : VBs G h l y := by
  induction w generalizing l with
  | nil => exact hv
  | cons hw _ ih =>
    obtain ⟨a, l', rfl, h1, h2⟩ := hv.cons_r
    exact .cons (h1.clo hk9 ho hcm hpl hsz hw) (ih h2)
theorem SlotB.clo {k sz m : Nat} {es : List (List BV)} {c : List BV} (hk9 : k < 1000) (ho : ObR G h (128 + k) c) (hcm : c.map BV.bare = es.flatten) (hpl : c.all (BV.plain m) = true) (hsz : ∀ r ∈ es, r.length = sz) {a : Slot} {x y : BSlot} (hv : SlotB G h a x) (w : CloS k es sz m x y) : SlotB G h a y := by
  cases w with
  | refl => exact hv
  | v hw => cases hv with | v hv => exact .v (hv.clo hk9 ho hcm hpl hsz hw)
  | a hw =>
    cases hv with
    | v hv =>
      obtain ⟨as, rfl, h3⟩ := hv.agg_inv
      have := h3.clo hk9 ho hcm hpl hsz hw
      exact .v (.agg this.1 this.2)
theorem EnvO.rep {k sz m : Nat} {es : List (List BV)} {c : List BV} (hk9 : k < 1000) (ho : ObR G h (128 + k) c) (hcm : c.map BV.bare = es.flatten) (hpl : c.all (BV.plain m) = true) (hsz : ∀ r ∈ es, r.length = sz) {e e' : SL} (w : EnvO k es sz m e e') : ∀ {re : List (Nat × Slot)}, L2 (fun x y => x.1 = y.1 ∧ SlotB G h x.2 y.2) re e → L2 (fun x y => x.1 = y.1 ∧ SlotB G h x.2 y.2) re e' := by
  induction w with
  | nil => exact fun h => h
  | @cons n x y l l' hw _ ih =>
    intro re hh
    obtain ⟨⟨n', a⟩, re', rfl, ⟨k1, k2⟩, k3⟩ := hh.cons_r
    exact .cons ⟨k1, k2.clo hk9 ho hcm hpl hsz hw⟩ (ih k3)
theorem xb_close {row rowm : α → List BV} {sz m : Nat} (k : Nat) (L : List α) (hk9 : Nat.blt k 1000 = true) (hl : lkp ob (128 + k) = some (L.map rowm).flatten) (hb : ∀ x, (rowm x).map BV.bare = row x) (hp : ∀ x, (rowm x).all (BV.plain m) = true) (hsz : ∀ x, (row x).length = sz)
    (h1 : SubO k (L.map row) sz m sl' sl) (h2 : EnvO k (L.map row) sz m env env') (h3 : SubOC k (L.map row) sz m lo' lo) (h4 : SubOC k (L.map row) sz m ob' ob) (h5 : df = [])
    (h : XRB T call bx ops bs pk l ⟨sl', env', lo', ob', df⟩ Q Qp) : XRB T call bx ops bs pk l ⟨sl, env, lo, ob, df⟩ Q Qp := by
  intro G r hr hc hpk
  have hk' : k < 1000 := by rw [Nat.blt, Nat.ble_eq] at hk9; omega
  have ho := hr.ob _ _ hl
  have hcm : (L.map rowm).flatten.map BV.bare = (L.map row).flatten := map_flat hb L
  have hpl : (L.map rowm).flatten.all (BV.plain m) = true := all_flat hp L
  have hsz' : ∀ r ∈ L.map row, r.length = sz := fun r hr => by
    obtain ⟨x, _, rfl⟩ := List.mem_map.1 hr
    exact hsz x
  refine h G r ⟨?_, fun t y hy => ?_, fun u d hd => ?_, fun t c hc => ?_, hr.df⟩ hc hpk
  · exact h2.rep hk' ho hcm hpl hsz' hr.env
  · obtain ⟨x, x1, x2⟩ := h1 t y hy
    obtain ⟨z, z1, z2⟩ := hr.sl t x x1
    exact ⟨z, z1, z2.clo hk' ho hcm hpl hsz' x2⟩
  · obtain ⟨x, x1, x2⟩ := h3 u d hd
    obtain ⟨z, z1, z2⟩ := hr.lo u x x1
    exact ⟨z, z1, z2.clo hk' ho hcm hpl hsz' x2⟩
  · obtain ⟨x, x1, x2⟩ := h4 t c hc
    rcases hr.ob t x x1 with ⟨z1, rfl, z3⟩ | ⟨a, b, kb, ca, q1, q2, q3, q4, q5, q6⟩
    · cases x2; exact .inl ⟨z1, rfl, z3⟩
    · have := q6.clo hk' ho hcm hpl hsz' x2
      exact .inr ⟨a, b, kb, ca, q1, q2, q3, q4, by rw [← this.1, q6.1]; exact q5, this⟩
end
end Go.Eng
