/- Texts D1 to D1 of this proof, in one. -/
import Derived.Test.YtmddacjemlkhpaaW5
/- Functions of the program, over lists and structures. Printed by shal.py. -/
set_option linter.unusedVariables false
set_option maxHeartbeats 1000000
set_option maxRecDepth 4000
namespace Go.Eng.Try
open Go Go.Proofs Go.Eng
/-- folkmoot/folkmootref15.sets -/
def F54 (a0 : List Int) (a1 : List Int) : Option (Bool) :=
  bif ((len a0) != (len a1)) then (some false) else (jn (some true) fun J1 => lp1 (fun (v3 : Int) => bif (decide (v3 < (len a0))) then ((idx a0 v3).bind fun x5 => (idx a1 v3).bind fun x7 => bif (x5 != x7) then (some (.inr (.inr false))) else (some (.inl (fwrap .i64 (v3 + 1))))) else (some (.inr (.inl ())))) 0 (fun (_ : Unit) => J1))
theorem f54_ok (a0 : List Int) (a1 : List Int) (y : Bool) (h : F54 a0 a1 = some y) : CallB (evalL tis funs hints) noP 54 [.ls (List.map ci a0) 1 0 1, .ls (List.map ci a1) 1 0 1] [] (fun r ob => r = .ret (.bool y) ∧ ob = []) := by
  refine ansB_of rfl rfl rfl rfl fun om pi hp => ?_
  unfold F54 at h
  refine y_seq ?_
  refine y_region rfl rfl ?_
  refine xb_run zbs 1 rfl rfl ?_
  refine xb_end ?_
  refine y_nf ?_
  refine y_seq ?_
  refine y_seq ?_
  refine y_region rfl rfl ?_
  refine xb_run zbs 1 rfl rfl ?_
  refine xb_pure rfl (pLenB rfl rfl rfl rfl rfl) rfl rfl rfl rfl ?_
  refine xb_run zbs 1 rfl rfl ?_
  refine xb_pure rfl (pLenB rfl rfl rfl rfl rfl) rfl rfl rfl rfl ?_
  refine xb_run zbs 1 rfl rfl ?_
  refine xb_end ?_
  refine y_nf ?_
  refine y_cond rfl (fun hc => ?_) (fun hc => ?_)
  · replace h := condT h hc
    refine y_seq ?_
    refine y_region rfl rfl ?_
    refine xb_run zbs 1 rfl rfl ?_
    refine xb_end ?_
    refine y_nf ?_
    cases h
    refine y_ret ?_
    exact ends_retB 0 rfl rfl Has.nil ⟨rfl, rfl⟩
  · replace h := condF h hc
    refine y_skip ?_
    refine y_nf ?_
    obtain ⟨J1, hJ1, h⟩ := jnE h
    refine y_join0 (df' := []) [(4, .v (.bool false))] [] [] (J1 = some y) ?_ ?_
    · refine y_seq ?_
      refine y_region rfl rfl ?_
      refine xb_run zbs 1 rfl rfl ?_
      refine xb_end ?_
      refine y_nf ?_
      refine y_block ?_
      refine y_lp1 h (fun (v3 : Int) => [(0, .v (.ls (List.map ci a0) 1 0 1)), (1, .v (.ls (List.map ci a1) 1 0 1)), (4, .v (.bool false)), (5, .v (.int .i64 v3))]) (fun (v3 : Int) => []) (fun (v3 : Int) => []) (SubW.cons rfl .refl (SubW.cons rfl .refl (SubW.cons rfl .refl (SubW.cons rfl .refl SubW.nil)))) SubC'.nil SubC'.nil ?_
      intro v3 w4 h
      refine y_seq ?_
      refine y_seq ?_
      refine y_region rfl rfl ?_
      refine xb_run zbs 2 rfl rfl ?_
      refine xb_pure rfl (pLenB rfl rfl rfl rfl rfl) rfl rfl rfl rfl ?_
      refine xb_run zbs 1 rfl rfl ?_
      refine xb_end ?_
      refine y_nf ?_
      refine y_cond rfl (fun hc => ?_) (fun hc => ?_)
      · replace h := condT h hc
        refine y_skip ?_
        refine y_nf ?_
        refine y_seq ?_
        refine y_block ?_
        refine y_seq ?_
        refine y_region rfl rfl ?_
        refine xb_run zbs 2 rfl rfl ?_
        obtain ⟨x5, hx6, h⟩ := bnd h
        refine xb_pure rfl (pIdxB rfl rfl rfl rfl hx6) rfl rfl rfl rfl ?_
        refine xb_run zbs 3 rfl rfl ?_
        obtain ⟨x7, hx8, h⟩ := bnd h
        refine xb_pure rfl (pIdxB rfl rfl rfl rfl hx8) rfl rfl rfl rfl ?_
        refine xb_run zbs 2 rfl rfl ?_
        refine xb_end ?_
        refine y_nf ?_
        refine y_cond rfl (fun hc => ?_) (fun hc => ?_)
        · replace h := condT h hc
          refine y_seq ?_
          refine y_region rfl rfl ?_
          refine xb_run zbs 1 rfl rfl ?_
          refine xb_end ?_
          refine y_nf ?_
          cases h
          refine y_ret ⟨_, rfl, fun h => ?_⟩
          cases h
          exact ends_retB 0 rfl rfl Has.nil ⟨rfl, rfl⟩
        · replace h := condF h hc
          refine y_skip ?_
          refine y_nf ?_
          refine y_region rfl rfl ?_
          refine xb_run zbs 3 rfl rfl ?_
          refine xb_end ?_
          cases h
          exact ⟨(fwrap .i64 (v3 + 1)), rfl, SubW.cons rfl .refl (SubW.cons rfl .refl (SubW.cons rfl .refl (SubW.cons rfl .refl SubW.nil))), SubC'.nil, SubC'.nil, rfl⟩
      · replace h := condF h hc
        cases h
        refine y_exit ⟨_, rfl, fun h => ?_⟩
        exact ⟨(), SubW.cons rfl .refl SubW.nil, SubC'.nil, SubC'.nil, rfl, h⟩
    · intro h
      subst hJ1
      refine y_seq ?_
      refine y_region rfl rfl ?_
      refine xb_run zbs 1 rfl rfl ?_
      refine xb_end ?_
      refine y_nf ?_
      cases h
      refine y_ret ?_
      exact ends_retB 0 rfl rfl Has.nil ⟨rfl, rfl⟩

/-- folkmoot/stable.noConfig -/
def F45 (a0 : Config) : Option (Bool) :=
  some ((fwrap .i64 ((len a0.Voters) + (len a0.Learners))) == 0)
theorem f45_ok (a0 : Config) (y : Bool) (h : F45 a0 = some y) : CallB (evalL tis funs hints) noP 45 [.agg (Config.cells 1 a0)] [] (fun r ob => r = .ret (.bool y) ∧ ob = []) := by
  refine ansB_of rfl rfl rfl rfl fun om pi hp => ?_
  unfold F45 at h
  refine y_seq ?_
  refine y_region rfl rfl ?_
  refine xb_boxL (ZB := zbs) rfl rfl rfl rfl rfl rfl rfl rfl rfl rfl rfl ?_
  refine xb_run zbs 1 rfl rfl ?_
  refine xb_end ?_
  refine y_nf ?_
  refine y_seq ?_
  refine y_region rfl rfl ?_
  refine xb_run zbs 2 rfl rfl ?_
  refine xb_pure rfl (pLenB rfl rfl rfl rfl rfl) rfl rfl rfl rfl ?_
  refine xb_run zbs 2 rfl rfl ?_
  refine xb_pure rfl (pLenB rfl rfl rfl rfl rfl) rfl rfl rfl rfl ?_
  refine xb_run zbs 3 rfl rfl ?_
  refine xb_end ?_
  refine y_nf ?_
  cases h
  refine y_ret ?_
  exact ends_retB 0 rfl rfl Has.nil ⟨rfl, rfl⟩

/-- folkmoot/stable.noEntry -/
def F49 (a0 : Entry) : Option (Bool) :=
  jn (fun (v1 : Bool) => some v1) fun J2 => bif (a0.Index == 0) then (bif (a0.Term == 0) then (bif (a0.Kind == 0) then (bif (a0.Data == []) then ((F45 a0.Config).bind fun r7 => J2 r7) else (J2 false)) else (J2 false)) else (J2 false)) else (J2 false)
theorem f49_ok (a0 : Entry) (y : Bool) (h : F49 a0 = some y) : CallB (evalL tis funs hints) noP 49 [.agg (Entry.cells 1 a0)] [] (fun r ob => r = .ret (.bool y) ∧ ob = []) := by
  refine ansB_of rfl rfl rfl rfl fun om pi hp => ?_
  unfold F49 at h
  refine y_seq ?_
  refine y_region rfl rfl ?_
  refine xb_boxL (ZB := zbs) rfl rfl rfl rfl rfl rfl rfl rfl rfl rfl rfl ?_
  refine xb_run zbs 1 rfl rfl ?_
  refine xb_end ?_
  refine y_nf ?_
  obtain ⟨J2, hJ2, h⟩ := jnE h
  refine y_join1 (df' := []) (fun (v1 : Bool) => [(2, .v (.bool v1))]) (fun (v1 : Bool) => []) (fun (v1 : Bool) => []) (fun (v1 : Bool) => J2 v1 = some y) ?_ ?_
  · refine y_region rfl rfl ?_
    refine xb_run zbs 4 rfl rfl ?_
    cases hg3 : (a0.Index == 0) with
    | false =>
      replace h := condF h hg3
      refine xb_run zbs 20 rfl rfl ?_
      refine xb_end ?_
      exact ⟨false, SubW.cons rfl .refl SubW.nil, SubC'.nil, SubC'.nil, rfl, h⟩
    | true =>
      replace h := condT h hg3
      refine xb_run zbs 5 rfl rfl ?_
      cases hg4 : (a0.Term == 0) with
      | false =>
        replace h := condF h hg4
        refine xb_run zbs 15 rfl rfl ?_
        refine xb_end ?_
        exact ⟨false, SubW.cons rfl .refl SubW.nil, SubC'.nil, SubC'.nil, rfl, h⟩
      | true =>
        replace h := condT h hg4
        refine xb_run zbs 5 rfl rfl ?_
        cases hg5 : (a0.Kind == 0) with
        | false =>
          replace h := condF h hg5
          refine xb_run zbs 10 rfl rfl ?_
          refine xb_end ?_
          exact ⟨false, SubW.cons rfl .refl SubW.nil, SubC'.nil, SubC'.nil, rfl, h⟩
        | true =>
          replace h := condT h hg5
          refine xb_run zbs 5 rfl rfl ?_
          cases hg6 : (a0.Data == []) with
          | false =>
            replace h := condF h hg6
            refine xb_run zbs 5 rfl rfl ?_
            refine xb_end ?_
            exact ⟨false, SubW.cons rfl .refl SubW.nil, SubC'.nil, SubC'.nil, rfl, h⟩
          | true =>
            replace h := condT h hg6
            refine xb_run zbs 2 rfl rfl ?_
            obtain ⟨r7, hf8, h⟩ := bnd h
            refine xb_call0 (ZB := zbs) 1 (.bool r7) rfl rfl rfl rfl rfl rfl rfl (f45_ok a0.Config _ hf8) rfl rfl rfl rfl ?_
            refine xb_run zbs 2 rfl rfl ?_
            refine xb_end ?_
            exact ⟨r7, SubW.cons rfl .refl SubW.nil, SubC'.nil, SubC'.nil, rfl, h⟩
  · intro v1 h
    subst hJ2
    cases h
    refine y_ret ?_
    exact ends_retB 0 rfl rfl Has.nil ⟨rfl, rfl⟩

/-- folkmoot/stable.noSnap -/
def F26 (a0 : Snapshot) : Option (Bool) :=
  jn (fun (v1 : Bool) => some v1) fun J2 => bif (a0.Index == 0) then (bif (a0.Term == 0) then (bif (a0.Data == []) then ((F45 a0.Config).bind fun r6 => J2 r6) else (J2 false)) else (J2 false)) else (J2 false)
theorem f26_ok (a0 : Snapshot) (y : Bool) (h : F26 a0 = some y) : CallB (evalL tis funs hints) noP 26 [.agg (Snapshot.cells 1 a0)] [] (fun r ob => r = .ret (.bool y) ∧ ob = []) := by
  refine ansB_of rfl rfl rfl rfl fun om pi hp => ?_
  unfold F26 at h
  refine y_seq ?_
  refine y_region rfl rfl ?_
  refine xb_boxL (ZB := zbs) rfl rfl rfl rfl rfl rfl rfl rfl rfl rfl rfl ?_
  refine xb_run zbs 1 rfl rfl ?_
  refine xb_end ?_
  refine y_nf ?_
  obtain ⟨J2, hJ2, h⟩ := jnE h
  refine y_join1 (df' := []) (fun (v1 : Bool) => [(2, .v (.bool v1))]) (fun (v1 : Bool) => []) (fun (v1 : Bool) => []) (fun (v1 : Bool) => J2 v1 = some y) ?_ ?_
  · refine y_region rfl rfl ?_
    refine xb_run zbs 4 rfl rfl ?_
    cases hg3 : (a0.Index == 0) with
    | false =>
      replace h := condF h hg3
      refine xb_run zbs 15 rfl rfl ?_
      refine xb_end ?_
      exact ⟨false, SubW.cons rfl .refl SubW.nil, SubC'.nil, SubC'.nil, rfl, h⟩
    | true =>
      replace h := condT h hg3
      refine xb_run zbs 5 rfl rfl ?_
      cases hg4 : (a0.Term == 0) with
      | false =>
        replace h := condF h hg4
        refine xb_run zbs 10 rfl rfl ?_
        refine xb_end ?_
        exact ⟨false, SubW.cons rfl .refl SubW.nil, SubC'.nil, SubC'.nil, rfl, h⟩
      | true =>
        replace h := condT h hg4
        refine xb_run zbs 5 rfl rfl ?_
        cases hg5 : (a0.Data == []) with
        | false =>
          replace h := condF h hg5
          refine xb_run zbs 5 rfl rfl ?_
          refine xb_end ?_
          exact ⟨false, SubW.cons rfl .refl SubW.nil, SubC'.nil, SubC'.nil, rfl, h⟩
        | true =>
          replace h := condT h hg5
          refine xb_run zbs 2 rfl rfl ?_
          obtain ⟨r6, hf7, h⟩ := bnd h
          refine xb_call0 (ZB := zbs) 1 (.bool r6) rfl rfl rfl rfl rfl rfl rfl (f45_ok a0.Config _ hf7) rfl rfl rfl rfl ?_
          refine xb_run zbs 2 rfl rfl ?_
          refine xb_end ?_
          exact ⟨r6, SubW.cons rfl .refl SubW.nil, SubC'.nil, SubC'.nil, rfl, h⟩
  · intro v1 h
    subst hJ2
    cases h
    refine y_ret ?_
    exact ends_retB 0 rfl rfl Has.nil ⟨rfl, rfl⟩

/-- folkmoot/folkmootref15.Configs -/
def F44 (a0 : Config) (a1 : Config) : Option (Bool) :=
  jn (fun (v1 : Bool) => some v1) fun J2 => (F54 a0.Voters a1.Voters).bind fun r3 => bif r3 then ((F54 a0.Learners a1.Learners).bind fun r6 => J2 r6) else (J2 false)
theorem f44_ok (a0 : Config) (a1 : Config) (y : Bool) (h : F44 a0 a1 = some y) : CallB (evalL tis funs hints) noP 44 [.agg (Config.cells 1 a0), .agg (Config.cells 1 a1)] [] (fun r ob => r = .ret (.bool y) ∧ ob = []) := by
  refine ansB_of rfl rfl rfl rfl fun om pi hp => ?_
  unfold F44 at h
  refine y_seq ?_
  refine y_region rfl rfl ?_
  refine xb_boxL (ZB := zbs) rfl rfl rfl rfl rfl rfl rfl rfl rfl rfl rfl ?_
  refine xb_boxL (ZB := zbs) rfl rfl rfl rfl rfl rfl rfl rfl rfl rfl rfl ?_
  refine xb_run zbs 1 rfl rfl ?_
  refine xb_end ?_
  refine y_nf ?_
  obtain ⟨J2, hJ2, h⟩ := jnE h
  refine y_join1 (df' := []) (fun (v1 : Bool) => [(4, .v (.bool v1))]) (fun (v1 : Bool) => []) (fun (v1 : Bool) => []) (fun (v1 : Bool) => J2 v1 = some y) ?_ ?_
  · refine y_region rfl rfl ?_
    refine xb_run zbs 4 rfl rfl ?_
    obtain ⟨r3, hf4, h⟩ := bnd h
    refine xb_call0 (ZB := zbs) 1 (.bool r3) rfl rfl rfl rfl rfl rfl rfl (f54_ok a0.Voters a1.Voters _ hf4) rfl rfl rfl rfl ?_
    refine xb_run zbs 1 rfl rfl ?_
    cases hg5 : r3 with
    | false =>
      replace h := condF h hg5
      refine xb_run zbs 7 rfl rfl ?_
      refine xb_end ?_
      exact ⟨false, SubW.cons rfl .refl SubW.nil, SubC'.nil, SubC'.nil, rfl, h⟩
    | true =>
      replace h := condT h hg5
      refine xb_run zbs 4 rfl rfl ?_
      obtain ⟨r6, hf7, h⟩ := bnd h
      refine xb_call0 (ZB := zbs) 1 (.bool r6) rfl rfl rfl rfl rfl rfl rfl (f54_ok a0.Learners a1.Learners _ hf7) rfl rfl rfl rfl ?_
      refine xb_run zbs 2 rfl rfl ?_
      refine xb_end ?_
      exact ⟨r6, SubW.cons rfl .refl SubW.nil, SubC'.nil, SubC'.nil, rfl, h⟩
  · intro v1 h
    subst hJ2
    cases h
    refine y_ret ?_
    exact ends_retB 0 rfl rfl Has.nil ⟨rfl, rfl⟩

/-- folkmoot/folkmootref15.Snaps -/
def F21 (a0 : Snapshot) (a1 : Snapshot) : Option (Bool) :=
  jn (fun (v1 : Bool) => some v1) fun J2 => bif (a0.Index == a1.Index) then (bif (a0.Term == a1.Term) then (bif (a0.Data == a1.Data) then ((F44 a0.Config a1.Config).bind fun r6 => J2 r6) else (J2 false)) else (J2 false)) else (J2 false)
theorem f21_ok (a0 : Snapshot) (a1 : Snapshot) (y : Bool) (h : F21 a0 a1 = some y) : CallB (evalL tis funs hints) noP 21 [.agg (Snapshot.cells 1 a0), .agg (Snapshot.cells 1 a1)] [] (fun r ob => r = .ret (.bool y) ∧ ob = []) := by
  refine ansB_of rfl rfl rfl rfl fun om pi hp => ?_
  unfold F21 at h
  refine y_seq ?_
  refine y_region rfl rfl ?_
  refine xb_boxL (ZB := zbs) rfl rfl rfl rfl rfl rfl rfl rfl rfl rfl rfl ?_
  refine xb_boxL (ZB := zbs) rfl rfl rfl rfl rfl rfl rfl rfl rfl rfl rfl ?_
  refine xb_run zbs 1 rfl rfl ?_
  refine xb_end ?_
  refine y_nf ?_
  obtain ⟨J2, hJ2, h⟩ := jnE h
  refine y_join1 (df' := []) (fun (v1 : Bool) => [(4, .v (.bool v1))]) (fun (v1 : Bool) => []) (fun (v1 : Bool) => []) (fun (v1 : Bool) => J2 v1 = some y) ?_ ?_
  · refine y_region rfl rfl ?_
    refine xb_run zbs 6 rfl rfl ?_
    cases hg3 : (a0.Index == a1.Index) with
    | false =>
      replace h := condF h hg3
      refine xb_run zbs 21 rfl rfl ?_
      refine xb_end ?_
      exact ⟨false, SubW.cons rfl .refl SubW.nil, SubC'.nil, SubC'.nil, rfl, h⟩
    | true =>
      replace h := condT h hg3
      refine xb_run zbs 7 rfl rfl ?_
      cases hg4 : (a0.Term == a1.Term) with
      | false =>
        replace h := condF h hg4
        refine xb_run zbs 14 rfl rfl ?_
        refine xb_end ?_
        exact ⟨false, SubW.cons rfl .refl SubW.nil, SubC'.nil, SubC'.nil, rfl, h⟩
      | true =>
        replace h := condT h hg4
        refine xb_run zbs 7 rfl rfl ?_
        cases hg5 : (a0.Data == a1.Data) with
        | false =>
          replace h := condF h hg5
          refine xb_run zbs 7 rfl rfl ?_
          refine xb_end ?_
          exact ⟨false, SubW.cons rfl .refl SubW.nil, SubC'.nil, SubC'.nil, rfl, h⟩
        | true =>
          replace h := condT h hg5
          refine xb_run zbs 4 rfl rfl ?_
          obtain ⟨r6, hf7, h⟩ := bnd h
          refine xb_call0 (ZB := zbs) 1 (.bool r6) rfl rfl rfl rfl rfl rfl rfl (f44_ok a0.Config a1.Config _ hf7) rfl rfl rfl rfl ?_
          refine xb_run zbs 2 rfl rfl ?_
          refine xb_end ?_
          exact ⟨r6, SubW.cons rfl .refl SubW.nil, SubC'.nil, SubC'.nil, rfl, h⟩
  · intro v1 h
    subst hJ2
    cases h
    refine y_ret ?_
    exact ends_retB 0 rfl rfl Has.nil ⟨rfl, rfl⟩

/-- folkmoot/folkmootref15.Entries -/
def F22 (a0 : Entry) (a1 : Entry) : Option (Bool) :=
  jn (fun (v1 : Bool) => some v1) fun J2 => bif (a0.Index == a1.Index) then (bif (a0.Term == a1.Term) then (bif (a0.Kind == a1.Kind) then (bif (a0.Data == a1.Data) then ((F44 a0.Config a1.Config).bind fun r7 => J2 r7) else (J2 false)) else (J2 false)) else (J2 false)) else (J2 false)
theorem f22_ok (a0 : Entry) (a1 : Entry) (y : Bool) (h : F22 a0 a1 = some y) : CallB (evalL tis funs hints) noP 22 [.agg (Entry.cells 1 a0), .agg (Entry.cells 1 a1)] [] (fun r ob => r = .ret (.bool y) ∧ ob = []) := by
  refine ansB_of rfl rfl rfl rfl fun om pi hp => ?_
  unfold F22 at h
  refine y_seq ?_
  refine y_region rfl rfl ?_
  refine xb_boxL (ZB := zbs) rfl rfl rfl rfl rfl rfl rfl rfl rfl rfl rfl ?_
  refine xb_boxL (ZB := zbs) rfl rfl rfl rfl rfl rfl rfl rfl rfl rfl rfl ?_
  refine xb_run zbs 1 rfl rfl ?_
  refine xb_end ?_
  refine y_nf ?_
  obtain ⟨J2, hJ2, h⟩ := jnE h
  refine y_join1 (df' := []) (fun (v1 : Bool) => [(4, .v (.bool v1))]) (fun (v1 : Bool) => []) (fun (v1 : Bool) => []) (fun (v1 : Bool) => J2 v1 = some y) ?_ ?_
  · refine y_region rfl rfl ?_
    refine xb_run zbs 6 rfl rfl ?_
    cases hg3 : (a0.Index == a1.Index) with
    | false =>
      replace h := condF h hg3
      refine xb_run zbs 28 rfl rfl ?_
      refine xb_end ?_
      exact ⟨false, SubW.cons rfl .refl SubW.nil, SubC'.nil, SubC'.nil, rfl, h⟩
    | true =>
      replace h := condT h hg3
      refine xb_run zbs 7 rfl rfl ?_
      cases hg4 : (a0.Term == a1.Term) with
      | false =>
        replace h := condF h hg4
        refine xb_run zbs 21 rfl rfl ?_
        refine xb_end ?_
        exact ⟨false, SubW.cons rfl .refl SubW.nil, SubC'.nil, SubC'.nil, rfl, h⟩
      | true =>
        replace h := condT h hg4
        refine xb_run zbs 7 rfl rfl ?_
        cases hg5 : (a0.Kind == a1.Kind) with
        | false =>
          replace h := condF h hg5
          refine xb_run zbs 14 rfl rfl ?_
          refine xb_end ?_
          exact ⟨false, SubW.cons rfl .refl SubW.nil, SubC'.nil, SubC'.nil, rfl, h⟩
        | true =>
          replace h := condT h hg5
          refine xb_run zbs 7 rfl rfl ?_
          cases hg6 : (a0.Data == a1.Data) with
          | false =>
            replace h := condF h hg6
            refine xb_run zbs 7 rfl rfl ?_
            refine xb_end ?_
            exact ⟨false, SubW.cons rfl .refl SubW.nil, SubC'.nil, SubC'.nil, rfl, h⟩
          | true =>
            replace h := condT h hg6
            refine xb_run zbs 4 rfl rfl ?_
            obtain ⟨r7, hf8, h⟩ := bnd h
            refine xb_call0 (ZB := zbs) 1 (.bool r7) rfl rfl rfl rfl rfl rfl rfl (f44_ok a0.Config a1.Config _ hf8) rfl rfl rfl rfl ?_
            refine xb_run zbs 2 rfl rfl ?_
            refine xb_end ?_
            exact ⟨r7, SubW.cons rfl .refl SubW.nil, SubC'.nil, SubC'.nil, rfl, h⟩
  · intro v1 h
    subst hJ2
    cases h
    refine y_ret ?_
    exact ends_retB 0 rfl rfl Has.nil ⟨rfl, rfl⟩

/-- folkmoot/folkmootref15.Same -/
def F9 (a0 : Kept) (a1 : Kept) : Option (Bool) :=
  jn (fun (v1 : Bool) => bif v1 then (some false) else (jn (some true) fun J8 => lp1 (fun (v10 : Int) => bif (decide (v10 < (len a0.Entries))) then ((idx a0.Entries v10).bind fun x12 => (idx a1.Entries v10).bind fun x14 => (F22 x12 x14).bind fun r16 => bif (!r16) then (some (.inr (.inr false))) else (some (.inl (fwrap .i64 (v10 + 1))))) else (some (.inr (.inl ())))) 0 (fun (_ : Unit) => J8))) fun J2 => bif (a0.Term != a1.Term) then (J2 true) else (bif (a0.Vote != a1.Vote) then (J2 true) else ((F21 a0.Snap a1.Snap).bind fun r5 => bif (!r5) then (J2 true) else (J2 ((len a0.Entries) != (len a1.Entries)))))
theorem f9_ok (a0 : Kept) (a1 : Kept) (y : Bool) (h : F9 a0 a1 = some y) : CallB (evalL tis funs hints) noP 9 [.agg (Kept.cells 1 a0), .agg (Kept.cells 1 a1)] [] (fun r ob => r = .ret (.bool y) ∧ ob = []) := by
  refine ansB_of rfl rfl rfl rfl fun om pi hp => ?_
  unfold F9 at h
  refine y_seq ?_
  refine y_region rfl rfl ?_
  refine xb_boxL (ZB := zbs) rfl rfl rfl rfl rfl rfl rfl rfl rfl rfl rfl ?_
  refine xb_boxL (ZB := zbs) rfl rfl rfl rfl rfl rfl rfl rfl rfl rfl rfl ?_
  refine xb_run zbs 1 rfl rfl ?_
  refine xb_end ?_
  refine y_nf ?_
  refine y_seq ?_
  obtain ⟨J2, hJ2, h⟩ := jnE h
  refine y_join1 (df' := []) (fun (v1 : Bool) => [(2, .lr 2 0), (3, .lr 3 0), (4, .v (.bool false)), (34, .v (.bool v1))]) (fun (v1 : Bool) => [(2, (Kept.cells 1 a0)), (3, (Kept.cells 1 a1))]) (fun (v1 : Bool) => []) (fun (v1 : Bool) => J2 v1 = some y) ?_ ?_
  · refine y_region rfl rfl ?_
    refine xb_run zbs 6 rfl rfl ?_
    cases hg3 : (a0.Term != a1.Term) with
    | false =>
      replace h := condF h hg3
      refine xb_run zbs 7 rfl rfl ?_
      cases hg4 : (a0.Vote != a1.Vote) with
      | false =>
        replace h := condF h hg4
        refine xb_run zbs 4 rfl rfl ?_
        obtain ⟨r5, hf6, h⟩ := bnd h
        refine xb_call0 (ZB := zbs) 1 (.bool r5) rfl rfl rfl rfl rfl rfl rfl (f21_ok a0.Snap a1.Snap _ hf6) rfl rfl rfl rfl ?_
        refine xb_run zbs 3 rfl rfl ?_
        cases hg7 : (!r5) with
        | false =>
          replace h := condF h hg7
          refine xb_run zbs 2 rfl rfl ?_
          refine xb_pure rfl (pLenB rfl rfl rfl rfl rfl) rfl rfl rfl rfl ?_
          refine xb_run zbs 2 rfl rfl ?_
          refine xb_pure rfl (pLenB rfl rfl rfl rfl rfl) rfl rfl rfl rfl ?_
          refine xb_run zbs 2 rfl rfl ?_
          refine xb_end ?_
          exact ⟨((len a0.Entries) != (len a1.Entries)), SubW.cons rfl .refl (SubW.cons rfl .refl (SubW.cons rfl .refl (SubW.cons rfl .refl SubW.nil))), SubC'.cons rfl .refl (SubC'.cons rfl .refl SubC'.nil), SubC'.nil, rfl, h⟩
        | true =>
          replace h := condT h hg7
          refine xb_run zbs 8 rfl rfl ?_
          refine xb_end ?_
          exact ⟨true, SubW.cons rfl .refl (SubW.cons rfl .refl (SubW.cons rfl .refl (SubW.cons rfl .refl SubW.nil))), SubC'.cons rfl .refl (SubC'.cons rfl .refl SubC'.nil), SubC'.nil, rfl, h⟩
      | true =>
        replace h := condT h hg4
        refine xb_run zbs 16 rfl rfl ?_
        refine xb_end ?_
        exact ⟨true, SubW.cons rfl .refl (SubW.cons rfl .refl (SubW.cons rfl .refl (SubW.cons rfl .refl SubW.nil))), SubC'.cons rfl .refl (SubC'.cons rfl .refl SubC'.nil), SubC'.nil, rfl, h⟩
    | true =>
      replace h := condT h hg3
      refine xb_run zbs 23 rfl rfl ?_
      refine xb_end ?_
      exact ⟨true, SubW.cons rfl .refl (SubW.cons rfl .refl (SubW.cons rfl .refl (SubW.cons rfl .refl SubW.nil))), SubC'.cons rfl .refl (SubC'.cons rfl .refl SubC'.nil), SubC'.nil, rfl, h⟩
  · intro v1 h
    subst hJ2
    refine y_cond rfl (fun hc => ?_) (fun hc => ?_)
    · replace h := condT h hc
      refine y_seq ?_
      refine y_region rfl rfl ?_
      refine xb_run zbs 1 rfl rfl ?_
      refine xb_end ?_
      refine y_nf ?_
      cases h
      refine y_ret ?_
      exact ends_retB 0 rfl rfl Has.nil ⟨rfl, rfl⟩
    · replace h := condF h hc
      refine y_skip ?_
      refine y_nf ?_
      obtain ⟨J8, hJ8, h⟩ := jnE h
      refine y_join0 (df' := []) [(4, .v (.bool false))] [] [] (J8 = some y) ?_ ?_
      · refine y_seq ?_
        refine y_region rfl rfl ?_
        refine xb_run zbs 1 rfl rfl ?_
        refine xb_end ?_
        refine y_nf ?_
        refine y_block ?_
        refine y_lp1 h (fun (v10 : Int) => [(2, .lr 2 0), (3, .lr 3 0), (4, .v (.bool false)), (5, .v (.int .i64 v10))]) (fun (v10 : Int) => [(2, (Kept.cells 1 a0)), (3, (Kept.cells 1 a1))]) (fun (v10 : Int) => []) (SubW.cons rfl .refl (SubW.cons rfl .refl (SubW.cons rfl .refl (SubW.cons rfl .refl SubW.nil)))) (SubC'.cons rfl .refl (SubC'.cons rfl .refl SubC'.nil)) SubC'.nil ?_
        intro v10 w11 h
        refine y_seq ?_
        refine y_seq ?_
        refine y_region rfl rfl ?_
        refine xb_run zbs 3 rfl rfl ?_
        refine xb_pure rfl (pLenB rfl rfl rfl rfl rfl) rfl rfl rfl rfl ?_
        refine xb_run zbs 1 rfl rfl ?_
        refine xb_end ?_
        refine y_nf ?_
        refine y_cond rfl (fun hc => ?_) (fun hc => ?_)
        · replace h := condT h hc
          refine y_skip ?_
          refine y_nf ?_
          refine y_seq ?_
          refine y_block ?_
          refine y_seq ?_
          refine y_region rfl rfl ?_
          refine xb_run zbs 3 rfl rfl ?_
          obtain ⟨x12, hx13, h⟩ := bnd h
          refine xb_pure rfl (pIdxB rfl rfl rfl rfl hx13) rfl rfl rfl rfl ?_
          refine xb_run zbs 4 rfl rfl ?_
          obtain ⟨x14, hx15, h⟩ := bnd h
          refine xb_pure rfl (pIdxB rfl rfl rfl rfl hx15) rfl rfl rfl rfl ?_
          refine xb_run zbs 1 rfl rfl ?_
          obtain ⟨r16, hf17, h⟩ := bnd h
          refine xb_call0 (ZB := zbs) 1 (.bool r16) rfl rfl rfl rfl rfl rfl rfl (f22_ok x12 x14 _ hf17) rfl rfl rfl rfl ?_
          refine xb_run zbs 1 rfl rfl ?_
          refine xb_end ?_
          refine y_nf ?_
          refine y_cond rfl (fun hc => ?_) (fun hc => ?_)
          · replace h := condT h hc
            refine y_seq ?_
            refine y_region rfl rfl ?_
            refine xb_run zbs 1 rfl rfl ?_
            refine xb_end ?_
            refine y_nf ?_
            cases h
            refine y_ret ⟨_, rfl, fun h => ?_⟩
            cases h
            exact ends_retB 0 rfl rfl Has.nil ⟨rfl, rfl⟩
          · replace h := condF h hc
            refine y_skip ?_
            refine y_nf ?_
            refine y_region rfl rfl ?_
            refine xb_run zbs 3 rfl rfl ?_
            refine xb_end ?_
            cases h
            exact ⟨(fwrap .i64 (v10 + 1)), rfl, SubW.cons rfl .refl (SubW.cons rfl .refl (SubW.cons rfl .refl (SubW.cons rfl .refl SubW.nil))), SubC'.cons rfl .refl (SubC'.cons rfl .refl SubC'.nil), SubC'.nil, rfl⟩
        · replace h := condF h hc
          cases h
          refine y_exit ⟨_, rfl, fun h => ?_⟩
          exact ⟨(), SubW.cons rfl .refl SubW.nil, SubC'.nil, SubC'.nil, rfl, h⟩
      · intro h
        subst hJ8
        refine y_seq ?_
        refine y_region rfl rfl ?_
        refine xb_run zbs 1 rfl rfl ?_
        refine xb_end ?_
        refine y_nf ?_
        cases h
        refine y_ret ?_
        exact ends_retB 0 rfl rfl Has.nil ⟨rfl, rfl⟩

/-- folkmoot/folkmootlaw15.size -/
def F11 (a0 : Record) : Option (Int) :=
  some (fwrap .i64 ((fwrap .i64 ((fwrap .i64 ((fwrap .i64 ((fwrap .i64 ((fwrap .i64 (8 + (len a0.Entry.Data))) + (len a0.Snap.Data))) + (len a0.Entry.Config.Voters))) + (len a0.Entry.Config.Learners))) + (len a0.Snap.Config.Voters))) + (len a0.Snap.Config.Learners)))
theorem f11_ok (a0 : Record) (y : Int) (h : F11 a0 = some y) : CallB (evalL tis funs hints) noP 11 [.agg (Record.cells 1 a0)] [] (fun r ob => r = .ret (.int .i64 y) ∧ ob = []) := by
  refine ansB_of rfl rfl rfl rfl fun om pi hp => ?_
  unfold F11 at h
  refine y_seq ?_
  refine y_region rfl rfl ?_
  refine xb_boxL (ZB := zbs) rfl rfl rfl rfl rfl rfl rfl rfl rfl rfl rfl ?_
  refine xb_run zbs 1 rfl rfl ?_
  refine xb_end ?_
  refine y_nf ?_
  refine y_seq ?_
  refine y_region rfl rfl ?_
  refine xb_run zbs 3 rfl rfl ?_
  refine xb_pure rfl (pLenS rfl rfl rfl rfl rfl) rfl rfl rfl rfl ?_
  refine xb_run zbs 4 rfl rfl ?_
  refine xb_pure rfl (pLenS rfl rfl rfl rfl rfl) rfl rfl rfl rfl ?_
  refine xb_run zbs 5 rfl rfl ?_
  refine xb_pure rfl (pLenB rfl rfl rfl rfl rfl) rfl rfl rfl rfl ?_
  refine xb_run zbs 5 rfl rfl ?_
  refine xb_pure rfl (pLenB rfl rfl rfl rfl rfl) rfl rfl rfl rfl ?_
  refine xb_run zbs 5 rfl rfl ?_
  refine xb_pure rfl (pLenB rfl rfl rfl rfl rfl) rfl rfl rfl rfl ?_
  refine xb_run zbs 5 rfl rfl ?_
  refine xb_pure rfl (pLenB rfl rfl rfl rfl rfl) rfl rfl rfl rfl ?_
  refine xb_run zbs 2 rfl rfl ?_
  refine xb_end ?_
  refine y_nf ?_
  cases h
  refine y_ret ?_
  exact ends_retB 0 rfl rfl Has.nil ⟨rfl, rfl⟩

/-- folkmoot/folkmootlaw15.large -/
def F5 (a0 : Kept) (a1 : Record) : Option (Bool) :=
  (F11 a1).bind fun r1 => (F11 (⟨0, 0, 0, (⟨0, 0, 0, (⟨[], []⟩ : Config), []⟩ : Entry), 0, a0.Snap⟩ : Record)).bind fun r3 => jn (fun (v5 : Int) => some (decide (v5 > 100000))) fun J6 => lp2 (fun (v9 : Int) (v10 : Int) => jn (fun (v12 : Bool) => bif v12 then ((idx a0.Entries v10).bind fun x15 => (F11 (⟨0, 0, 0, x15, 0, (⟨0, 0, (⟨[], []⟩ : Config), []⟩ : Snapshot)⟩ : Record)).bind fun r17 => some (.inl ((fwrap .i64 (v9 + r17)), (fwrap .i64 (v10 + 1))))) else (some (.inr (.inl v9)))) fun J13 => bif (decide (v10 < (len a0.Entries))) then (J13 (decide (v9 ≤ 100000))) else (J13 false)) (fwrap .i64 (r1 + r3)) 0 (fun (q : Int) => J6 q)
theorem f5_ok (a0 : Kept) (a1 : Record) (y : Bool) (h : F5 a0 a1 = some y) : CallB (evalL tis funs hints) noP 5 [.agg (Kept.cells 1 a0), .agg (Record.cells 1 a1)] [] (fun r ob => r = .ret (.bool y) ∧ ob = []) := by
  refine ansB_of rfl rfl rfl rfl fun om pi hp => ?_
  unfold F5 at h
  refine y_seq ?_
  refine y_region rfl rfl ?_
  refine xb_boxL (ZB := zbs) rfl rfl rfl rfl rfl rfl rfl rfl rfl rfl rfl ?_
  refine xb_boxL (ZB := zbs) rfl rfl rfl rfl rfl rfl rfl rfl rfl rfl rfl ?_
  refine xb_run zbs 1 rfl rfl ?_
  refine xb_end ?_
  refine y_nf ?_
  refine y_seq ?_
  refine y_region rfl rfl ?_
  refine xb_run zbs 2 rfl rfl ?_
  refine xb_look' (i := 3) (ZB := zbs) rfl rfl rfl rfl rfl rfl rfl rfl rfl ?_
  refine xb_run zbs 1 rfl rfl ?_
  obtain ⟨r1, hf2, h⟩ := bnd h
  refine xb_call0 (ZB := zbs) 1 (.int .i64 r1) rfl rfl rfl rfl rfl rfl rfl (f11_ok a1 _ hf2) rfl rfl rfl rfl ?_
  obtain ⟨r3, hf4, h⟩ := bnd h
  refine xb_call0 (ZB := zbs) 1 (.int .i64 r3) rfl rfl rfl rfl rfl rfl rfl (f11_ok (⟨0, 0, 0, (⟨0, 0, 0, (⟨[], []⟩ : Config), []⟩ : Entry), 0, a0.Snap⟩ : Record) _ hf4) rfl rfl rfl rfl ?_
  refine xb_run zbs 2 rfl rfl ?_
  refine xb_end ?_
  refine y_nf ?_
  obtain ⟨J6, hJ6, h⟩ := jnE h
  refine y_join1 (df' := []) (fun (v5 : Int) => [(4, .v (.bool false)), (5, .v (.int .i64 v5))]) (fun (v5 : Int) => []) (fun (v5 : Int) => []) (fun (v5 : Int) => J6 v5 = some y) ?_ ?_
  · refine y_seq ?_
    refine y_region rfl rfl ?_
    refine xb_run zbs 1 rfl rfl ?_
    refine xb_end ?_
    refine y_nf ?_
    refine y_block ?_
    refine y_lp2 h (fun (v9 : Int) (v10 : Int) => [(2, .lr 2 0), (4, .v (.bool false)), (5, .v (.int .i64 v9)), (6, .v (.int .i64 v10))]) (fun (v9 : Int) (v10 : Int) => [(2, (Kept.cells 1 a0))]) (fun (v9 : Int) (v10 : Int) => []) (SubW.cons rfl .refl (SubW.cons rfl .refl (SubW.cons rfl .refl (SubW.cons rfl .refl SubW.nil)))) (SubC'.cons rfl .refl SubC'.nil) SubC'.nil ?_
    intro v9 v10 w11 h
    refine y_seq ?_
    obtain ⟨J13, hJ13, h⟩ := jnE h
    refine y_join1 (df' := []) (fun (v12 : Bool) => [(2, .lr 2 0), (4, .v (.bool false)), (5, .v (.int .i64 v9)), (6, .v (.int .i64 v10)), (22, .v (.bool v12))]) (fun (v12 : Bool) => [(2, (Kept.cells 1 a0))]) (fun (v12 : Bool) => []) (fun (v12 : Bool) => J13 v12 = some w11) ?_ ?_
    · refine y_region rfl rfl ?_
      refine xb_run zbs 3 rfl rfl ?_
      refine xb_pure rfl (pLenB rfl rfl rfl rfl rfl) rfl rfl rfl rfl ?_
      refine xb_run zbs 2 rfl rfl ?_
      cases hg14 : (decide (v10 < (len a0.Entries))) with
      | false =>
        replace h := condF h hg14
        refine xb_run zbs 3 rfl rfl ?_
        refine xb_end ?_
        exact ⟨false, SubW.cons rfl .refl (SubW.cons rfl .refl (SubW.cons rfl .refl (SubW.cons rfl .refl (SubW.cons rfl .refl SubW.nil)))), SubC'.cons rfl .refl SubC'.nil, SubC'.nil, rfl, h⟩
      | true =>
        replace h := condT h hg14
        refine xb_run zbs 3 rfl rfl ?_
        refine xb_end ?_
        exact ⟨(decide (v9 ≤ 100000)), SubW.cons rfl .refl (SubW.cons rfl .refl (SubW.cons rfl .refl (SubW.cons rfl .refl (SubW.cons rfl .refl SubW.nil)))), SubC'.cons rfl .refl SubC'.nil, SubC'.nil, rfl, h⟩
    · intro v12 h
      subst hJ13
      refine y_cond rfl (fun hc => ?_) (fun hc => ?_)
      · replace h := condT h hc
        refine y_skip ?_
        refine y_nf ?_
        refine y_seq ?_
        refine y_block ?_
        refine y_region rfl rfl ?_
        refine xb_run zbs 4 rfl rfl ?_
        obtain ⟨x15, hx16, h⟩ := bnd h
        refine xb_pure rfl (pIdxB rfl rfl rfl rfl hx16) rfl rfl rfl rfl ?_
        refine xb_run zbs 2 rfl rfl ?_
        obtain ⟨r17, hf18, h⟩ := bnd h
        refine xb_call0 (ZB := zbs) 1 (.int .i64 r17) rfl rfl rfl rfl rfl rfl rfl (f11_ok (⟨0, 0, 0, x15, 0, (⟨0, 0, (⟨[], []⟩ : Config), []⟩ : Snapshot)⟩ : Record) _ hf18) rfl rfl rfl rfl ?_
        refine xb_run zbs 2 rfl rfl ?_
        refine xb_end ?_
        refine y_nf ?_
        refine y_region rfl rfl ?_
        refine xb_run zbs 3 rfl rfl ?_
        refine xb_end ?_
        cases h
        exact ⟨((fwrap .i64 (v9 + r17)), (fwrap .i64 (v10 + 1))), rfl, SubW.cons rfl .refl (SubW.cons rfl .refl (SubW.cons rfl .refl (SubW.cons rfl .refl SubW.nil))), SubC'.cons rfl .refl SubC'.nil, SubC'.nil, rfl⟩
      · replace h := condF h hc
        cases h
        refine y_exit ⟨_, rfl, fun h => ?_⟩
        exact ⟨v9, SubW.cons rfl .refl (SubW.cons rfl .refl SubW.nil), SubC'.nil, SubC'.nil, rfl, h⟩
  · intro v5 h
    subst hJ6
    refine y_seq ?_
    refine y_region rfl rfl ?_
    refine xb_run zbs 3 rfl rfl ?_
    refine xb_end ?_
    refine y_nf ?_
    cases h
    refine y_ret ?_
    exact ends_retB 0 rfl rfl Has.nil ⟨rfl, rfl⟩

/-- folkmoot/folkmootref15.config -/
def F25 (a0 : Config) : Option (Config) :=
  (app [] a0.Voters).bind fun x1 => (app [] a0.Learners).bind fun x3 => some (⟨x1, x3⟩ : Config)
theorem f25_ok (a0 : Config) (y : Config) (h : F25 a0 = some y) : CallB (evalL tis funs hints) noP 25 [.agg (Config.cells 1 a0)] [] (fun r ob => r = .ret (.agg (Config.cells 2 y)) ∧ ob = []) := by
  refine ansB_of rfl rfl rfl rfl fun om pi hp => ?_
  unfold F25 at h
  refine y_seq ?_
  refine y_region rfl rfl ?_
  refine xb_boxL (ZB := zbs) rfl rfl rfl rfl rfl rfl rfl rfl rfl rfl rfl ?_
  refine xb_allocL zb25 rfl rfl rfl rfl rfl rfl rfl rfl rfl rfl ?_
  refine xb_end ?_
  refine y_nf ?_
  refine y_seq ?_
  refine y_region rfl rfl ?_
  refine xb_run zbs 1 rfl rfl ?_
  refine xb_allocL zb25 rfl rfl rfl rfl rfl rfl rfl rfl rfl rfl ?_
  refine xb_storeL (ZB := zbs) (c' := [.ls (List.map ci []) 1 0 0, .ls (List.map ci []) 1 0 0]) rfl rfl rfl rfl rfl rfl rfl rfl rfl rfl rfl ?_
  refine xb_end ?_
  refine y_nf ?_
  refine y_seq ?_
  refine y_region rfl rfl ?_
  refine xb_run zbs 4 rfl rfl ?_
  obtain ⟨x1, ha2, h⟩ := bnd h
  refine xb_app0S (ZB := zbs) 2 (fun _ => rfl) rfl rfl rfl rfl rfl rfl rfl rfl rfl ha2 rfl rfl rfl rfl rfl ?_
  refine xb_run zbs 1 rfl rfl ?_
  refine xb_storeL (ZB := zbs) (c' := [.ls (List.map ci x1) 1 3 0, .ls (List.map ci []) 1 0 0]) rfl rfl rfl rfl rfl rfl rfl rfl rfl rfl rfl ?_
  refine xb_end ?_
  refine y_nf ?_
  refine y_seq ?_
  refine y_region rfl rfl ?_
  refine xb_run zbs 4 rfl rfl ?_
  obtain ⟨x3, ha4, h⟩ := bnd h
  refine xb_app0S (ZB := zbs) 3 (fun _ => rfl) rfl rfl rfl rfl rfl rfl rfl rfl rfl ha4 rfl rfl rfl rfl rfl ?_
  refine xb_run zbs 1 rfl rfl ?_
  refine xb_storeL (ZB := zbs) (c' := [.ls (List.map ci x1) 1 3 0, .ls (List.map ci x3) 1 4 0]) rfl rfl rfl rfl rfl rfl rfl rfl rfl rfl rfl ?_
  refine xb_end ?_
  refine y_nf ?_
  refine y_seq ?_
  refine y_region rfl rfl ?_
  refine xb_run zbs 1 rfl rfl ?_
  refine xb_storeL (ZB := zbs) (c' := [.ls (List.map ci x1) 1 3 0, .ls (List.map ci x3) 1 4 0]) rfl rfl rfl rfl rfl rfl rfl rfl rfl rfl rfl ?_
  refine xb_end ?_
  refine y_nf ?_
  cases h
  refine y_ret ?_
  exact ends_retB 2 rfl rfl Has.nil ⟨rfl, rfl⟩

/-- folkmoot/folkmootref15.Entry -/
def F13 (a0 : Entry) : Option (Entry) :=
  (F25 a0.Config).bind fun r1 => some (⟨a0.Index, a0.Term, a0.Kind, r1, a0.Data⟩ : Entry)
theorem f13_ok (a0 : Entry) (y : Entry) (h : F13 a0 = some y) : CallB (evalL tis funs hints) noP 13 [.agg (Entry.cells 1 a0)] [] (fun r ob => r = .ret (.agg (Entry.cells 2 y)) ∧ ob = []) := by
  refine ansB_of rfl rfl rfl rfl fun om pi hp => ?_
  unfold F13 at h
  refine y_seq ?_
  refine y_region rfl rfl ?_
  refine xb_boxL (ZB := zbs) rfl rfl rfl rfl rfl rfl rfl rfl rfl rfl rfl ?_
  refine xb_allocL zb34 rfl rfl rfl rfl rfl rfl rfl rfl rfl rfl ?_
  refine xb_end ?_
  refine y_nf ?_
  refine y_seq ?_
  refine y_region rfl rfl ?_
  refine xb_run zbs 2 rfl rfl ?_
  obtain ⟨r1, hf2, h⟩ := bnd h
  refine xb_call0 (ZB := zbs) 1 (.agg (Config.cells 2 r1)) rfl rfl rfl rfl rfl rfl rfl (f25_ok a0.Config _ hf2) rfl rfl rfl rfl ?_
  refine xb_run zbs 1 rfl rfl ?_
  refine xb_storeL (ZB := zbs) (c' := [.int .i64 a0.Index, .int .i64 a0.Term, .int .i64 a0.Kind, .ls (List.map ci r1.Voters) 1 0 2, .ls (List.map ci r1.Learners) 1 0 2, .str a0.Data]) rfl rfl rfl rfl rfl rfl rfl rfl rfl rfl rfl ?_
  refine xb_end ?_
  refine y_nf ?_
  refine y_seq ?_
  refine y_region rfl rfl ?_
  refine xb_run zbs 1 rfl rfl ?_
  refine xb_storeL (ZB := zbs) (c' := [.int .i64 a0.Index, .int .i64 a0.Term, .int .i64 a0.Kind, .ls (List.map ci r1.Voters) 1 0 2, .ls (List.map ci r1.Learners) 1 0 2, .str a0.Data]) rfl rfl rfl rfl rfl rfl rfl rfl rfl rfl rfl ?_
  refine xb_end ?_
  refine y_nf ?_
  cases h
  refine y_ret ?_
  exact ends_retB 2 rfl rfl Has.nil ⟨rfl, rfl⟩

/-- folkmoot/folkmootref15.Snap -/
def F12 (a0 : Snapshot) : Option (Snapshot) :=
  (F25 a0.Config).bind fun r1 => some (⟨a0.Index, a0.Term, r1, a0.Data⟩ : Snapshot)
theorem f12_ok (a0 : Snapshot) (y : Snapshot) (h : F12 a0 = some y) : CallB (evalL tis funs hints) noP 12 [.agg (Snapshot.cells 1 a0)] [] (fun r ob => r = .ret (.agg (Snapshot.cells 2 y)) ∧ ob = []) := by
  refine ansB_of rfl rfl rfl rfl fun om pi hp => ?_
  unfold F12 at h
  refine y_seq ?_
  refine y_region rfl rfl ?_
  refine xb_boxL (ZB := zbs) rfl rfl rfl rfl rfl rfl rfl rfl rfl rfl rfl ?_
  refine xb_allocL zb27 rfl rfl rfl rfl rfl rfl rfl rfl rfl rfl ?_
  refine xb_end ?_
  refine y_nf ?_
  refine y_seq ?_
  refine y_region rfl rfl ?_
  refine xb_run zbs 2 rfl rfl ?_
  obtain ⟨r1, hf2, h⟩ := bnd h
  refine xb_call0 (ZB := zbs) 1 (.agg (Config.cells 2 r1)) rfl rfl rfl rfl rfl rfl rfl (f25_ok a0.Config _ hf2) rfl rfl rfl rfl ?_
  refine xb_run zbs 1 rfl rfl ?_
  refine xb_storeL (ZB := zbs) (c' := [.int .i64 a0.Index, .int .i64 a0.Term, .ls (List.map ci r1.Voters) 1 0 2, .ls (List.map ci r1.Learners) 1 0 2, .str a0.Data]) rfl rfl rfl rfl rfl rfl rfl rfl rfl rfl rfl ?_
  refine xb_end ?_
  refine y_nf ?_
  refine y_seq ?_
  refine y_region rfl rfl ?_
  refine xb_run zbs 1 rfl rfl ?_
  refine xb_storeL (ZB := zbs) (c' := [.int .i64 a0.Index, .int .i64 a0.Term, .ls (List.map ci r1.Voters) 1 0 2, .ls (List.map ci r1.Learners) 1 0 2, .str a0.Data]) rfl rfl rfl rfl rfl rfl rfl rfl rfl rfl rfl ?_
  refine xb_end ?_
  refine y_nf ?_
  cases h
  refine y_ret ?_
  exact ends_retB 2 rfl rfl Has.nil ⟨rfl, rfl⟩

/-- folkmoot/folkmootref15.Own -/
def F6 (a0 : Kept) : Option (Kept) :=
  (F12 a0.Snap).bind fun r1 => jn (fun (v3 : List Entry) => some (⟨a0.Term, a0.Vote, r1, v3⟩ : Kept)) fun J4 => lp2 (fun (v7 : Int) (v8 : List Entry) => bif (decide (v7 < (len a0.Entries))) then ((idx a0.Entries v7).bind fun x10 => (F13 x10).bind fun r12 => (app v8 [r12]).bind fun x14 => some (.inl ((fwrap .i64 (v7 + 1)), x14))) else (some (.inr (.inl v8)))) 0 [] (fun (q : (List Entry)) => J4 q)
theorem f6_ok (a0 : Kept) (y : Kept) (h : F6 a0 = some y) : CallB (evalL tis funs hints) (fun t => Nat.beq t 87) 6 [.agg (Kept.cells 1 a0)] [] (fun r ob => r = .ret (.agg [.int .i64 y.Term, .int .i64 y.Vote, .int .i64 y.Snap.Index, .int .i64 y.Snap.Term, .ls (List.map ci y.Snap.Config.Voters) 1 0 2, .ls (List.map ci y.Snap.Config.Learners) 1 0 2, .str y.Snap.Data, .ls (List.map Entry.row y.Entries) 6 88 2]) ∧ ob = []) := by
  refine ansB_of rfl rfl rfl rfl fun om pi hp => ?_
  unfold F6 at h
  refine y_seq ?_
  refine y_region rfl rfl ?_
  refine xb_boxL (ZB := zbs) rfl rfl rfl rfl rfl rfl rfl rfl rfl rfl rfl ?_
  refine xb_allocL zb30 rfl rfl rfl rfl rfl rfl rfl rfl rfl rfl ?_
  refine xb_end ?_
  refine y_nf ?_
  refine y_seq ?_
  refine y_region rfl rfl ?_
  refine xb_run zbs 1 rfl rfl ?_
  refine xb_look' (i := 1) (ZB := zbs) rfl rfl rfl rfl rfl rfl rfl rfl rfl ?_
  refine xb_run zbs 1 rfl rfl ?_
  refine xb_look' (i := 3) (ZB := zbs) rfl rfl rfl rfl rfl rfl rfl rfl rfl ?_
  refine xb_run zbs 2 rfl rfl ?_
  refine xb_allocL zb30 rfl rfl rfl rfl rfl rfl rfl rfl rfl rfl ?_
  obtain ⟨r1, hf2, h⟩ := bnd h
  refine xb_call0 (ZB := zbs) 1 (.agg (Snapshot.cells 2 r1)) rfl rfl rfl rfl rfl rfl rfl (f12_ok a0.Snap _ hf2) rfl rfl rfl rfl ?_
  refine xb_run zbs 1 rfl rfl ?_
  refine xb_pk0 ?_
  refine xb_storeL (ZB := zbs) (c' := [.int .i64 a0.Term, .int .i64 a0.Vote, .int .i64 r1.Index, .int .i64 r1.Term, .ls (List.map ci r1.Config.Voters) 1 0 2, .ls (List.map ci r1.Config.Learners) 1 0 2, .str r1.Data, .ls (List.map Entry.row []) 6 0 0]) rfl rfl rfl rfl rfl rfl rfl rfl rfl rfl rfl ?_
  refine xb_end ?_
  refine y_nf ?_
  obtain ⟨J4, hJ4, h⟩ := jnE h
  refine y_join1 (df' := []) (fun (v3 : List Entry) => [(2, .lr 2 0), (3, .lr 3 0)]) (fun (v3 : List Entry) => [(2, [.int .i64 0, .int .i64 0, .int .i64 0, .int .i64 0, .ls (List.map ci []) 1 0 0, .ls (List.map ci []) 1 0 0, .str [], .ls (List.map Entry.row []) 6 0 0]), (3, [.int .i64 a0.Term, .int .i64 a0.Vote, .int .i64 r1.Index, .int .i64 r1.Term, .ls (List.map ci r1.Config.Voters) 1 0 2, .ls (List.map ci r1.Config.Learners) 1 0 2, .str r1.Data, .ls (List.map Entry.row v3) 6 88 2])]) (fun (v3 : List Entry) => []) (fun (v3 : List Entry) => J4 v3 = some y) ?_ ?_
  · refine y_seq ?_
    refine y_region rfl rfl ?_
    refine xb_run zbs 1 rfl rfl ?_
    refine xb_end ?_
    refine y_nf ?_
    refine y_block ?_
    refine y_lp2 h (fun (v7 : Int) (v8 : List Entry) => [(1, .lr 1 0), (2, .lr 2 0), (3, .lr 3 0), (4, .v (.int .i64 v7))]) (fun (v7 : Int) (v8 : List Entry) => [(1, (Kept.cells 1 a0)), (2, [.int .i64 0, .int .i64 0, .int .i64 0, .int .i64 0, .ls (List.map ci []) 1 0 0, .ls (List.map ci []) 1 0 0, .str [], .ls (List.map Entry.row []) 6 0 0]), (3, [.int .i64 a0.Term, .int .i64 a0.Vote, .int .i64 r1.Index, .int .i64 r1.Term, .ls (List.map ci r1.Config.Voters) 1 0 2, .ls (List.map ci r1.Config.Learners) 1 0 2, .str r1.Data, .ls (List.map Entry.row v8) 6 88 2])]) (fun (v7 : Int) (v8 : List Entry) => []) (SubW.cons rfl .refl (SubW.cons rfl .refl (SubW.cons rfl .refl (SubW.cons rfl .refl SubW.nil)))) (SubC'.cons rfl .refl (SubC'.cons rfl .refl (SubC'.cons rfl (.cons .refl (.cons .refl (.cons .refl (.cons .refl (.cons .refl (.cons .refl (.cons .refl (.cons .nil .nil)))))))) SubC'.nil))) SubC'.nil ?_
    intro v7 v8 w9 h
    refine y_seq ?_
    refine y_seq ?_
    refine y_region rfl rfl ?_
    refine xb_run zbs 3 rfl rfl ?_
    refine xb_pure rfl (pLenB rfl rfl rfl rfl rfl) rfl rfl rfl rfl ?_
    refine xb_run zbs 1 rfl rfl ?_
    refine xb_end ?_
    refine y_nf ?_
    refine y_cond rfl (fun hc => ?_) (fun hc => ?_)
    · replace h := condT h hc
      refine y_skip ?_
      refine y_nf ?_
      refine y_seq ?_
      refine y_block ?_
      refine y_region rfl rfl ?_
      refine xb_run zbs 1 rfl rfl ?_
      refine xb_look' (i := 1) (ZB := zbs) rfl rfl rfl rfl rfl rfl rfl rfl rfl ?_
      refine xb_run zbs 3 rfl rfl ?_
      obtain ⟨x10, hx11, h⟩ := bnd h
      refine xb_pure rfl (pIdxB rfl rfl rfl rfl hx11) rfl rfl rfl rfl ?_
      refine xb_run zbs 1 rfl rfl ?_
      obtain ⟨r12, hf13, h⟩ := bnd h
      refine xb_call0 (ZB := zbs) 1 (.agg (Entry.cells 2 r12)) rfl rfl rfl rfl rfl rfl rfl (f13_ok x10 _ hf13) rfl rfl rfl rfl ?_
      refine xb_slice (ZB := zbs) (es := List.map Entry.row [r12]) 2 2 rfl rfl rfl rfl rfl rfl rfl rfl rfl rfl rfl rfl rfl rfl rfl rfl rfl ?_
      obtain ⟨x14, ha15, h⟩ := bnd h
      refine xb_app (ZB := zbs) 87 2 rfl rfl rfl rfl rfl rfl rfl rfl rfl ha15 rfl rfl rfl rfl (.inr rfl) rfl rfl rfl ?_
      refine xb_run zbs 1 rfl rfl ?_
      refine xb_pk0 ?_
      refine xb_storeL (ZB := zbs) (c' := [.int .i64 a0.Term, .int .i64 a0.Vote, .int .i64 r1.Index, .int .i64 r1.Term, .ls (List.map ci r1.Config.Voters) 1 0 2, .ls (List.map ci r1.Config.Learners) 1 0 2, .str r1.Data, .ls (List.map Entry.row x14) 6 88 2]) rfl rfl rfl rfl rfl rfl rfl rfl rfl rfl rfl ?_
      refine xb_end ?_
      refine y_nf ?_
      refine y_region rfl rfl ?_
      refine xb_run zbs 3 rfl rfl ?_
      refine xb_end ?_
      cases h
      exact ⟨((fwrap .i64 (v7 + 1)), x14), rfl, SubW.cons rfl .refl (SubW.cons rfl .refl (SubW.cons rfl .refl (SubW.cons rfl .refl SubW.nil))), SubC'.cons rfl .refl (SubC'.cons rfl .refl (SubC'.cons rfl .refl SubC'.nil)), SubC'.nil, rfl⟩
    · replace h := condF h hc
      cases h
      refine y_exit ⟨_, rfl, fun h => ?_⟩
      exact ⟨v8, SubW.cons rfl .refl (SubW.cons rfl .refl SubW.nil), SubC'.cons rfl .refl (SubC'.cons rfl .refl SubC'.nil), SubC'.nil, rfl, h⟩
  · intro v3 h
    subst hJ4
    refine y_seq ?_
    refine y_region rfl rfl ?_
    refine xb_run zbs 1 rfl rfl ?_
    refine xb_storeL (ZB := zbs) (c' := [.int .i64 a0.Term, .int .i64 a0.Vote, .int .i64 r1.Index, .int .i64 r1.Term, .ls (List.map ci r1.Config.Voters) 1 0 2, .ls (List.map ci r1.Config.Learners) 1 0 2, .str r1.Data, .ls (List.map Entry.row v3) 6 88 2]) rfl rfl rfl rfl rfl rfl rfl rfl rfl rfl rfl ?_
    refine xb_end ?_
    refine y_nf ?_
    cases h
    refine y_ret ?_
    exact ends_retB 2 rfl rfl Has.nil ⟨rfl, rfl⟩

/-- folkmoot/folkmootref15.Last -/
def F43 (a0 : Kept) : Option (Int) :=
  some (fwrap .i64 (a0.Snap.Index + (len a0.Entries)))
theorem f43_ok (a0 : Kept) (y : Int) (h : F43 a0 = some y) : CallB (evalL tis funs hints) noP 43 [.agg (Kept.cells 1 a0)] [] (fun r ob => r = .ret (.int .i64 y) ∧ ob = []) := by
  refine ansB_of rfl rfl rfl rfl fun om pi hp => ?_
  unfold F43 at h
  refine y_seq ?_
  refine y_region rfl rfl ?_
  refine xb_boxL (ZB := zbs) rfl rfl rfl rfl rfl rfl rfl rfl rfl rfl rfl ?_
  refine xb_run zbs 1 rfl rfl ?_
  refine xb_end ?_
  refine y_nf ?_
  refine y_seq ?_
  refine y_region rfl rfl ?_
  refine xb_run zbs 5 rfl rfl ?_
  refine xb_pure rfl (pLenB rfl rfl rfl rfl rfl) rfl rfl rfl rfl ?_
  refine xb_run zbs 2 rfl rfl ?_
  refine xb_end ?_
  refine y_nf ?_
  cases h
  refine y_ret ?_
  exact ends_retB 0 rfl rfl Has.nil ⟨rfl, rfl⟩

/-- folkmoot/folkmootref15.no -/
def F18 (a0 : Int) : Option (Kept × Int) :=
  some ((⟨0, 0, (⟨0, 0, (⟨[], []⟩ : Config), []⟩ : Snapshot), []⟩ : Kept), a0)
theorem f18_ok (a0 : Int) (y : Kept × Int) (h : F18 a0 = some y) : CallB (evalL tis funs hints) noP 18 [.int .i64 a0] [] (fun r ob => r = .ret (.tup [.agg (Kept.cells 0 y.1), .int .i64 y.2]) ∧ ob = []) := by
  refine ansB_of rfl rfl rfl rfl fun om pi hp => ?_
  unfold F18 at h
  refine y_seq ?_
  refine y_region rfl rfl ?_
  refine xb_allocL zb30 rfl rfl rfl rfl rfl rfl rfl rfl rfl rfl ?_
  refine xb_run zbs 1 rfl rfl ?_
  refine xb_end ?_
  refine y_nf ?_
  refine y_seq ?_
  refine y_region rfl rfl ?_
  refine xb_run zbs 2 rfl rfl ?_
  refine xb_storeL (ZB := zbs) (c' := [.int .i64 0, .int .i64 0, .int .i64 0, .int .i64 0, .ls (List.map ci []) 1 0 0, .ls (List.map ci []) 1 0 0, .str [], .ls (List.map Entry.row []) 6 0 0]) rfl rfl rfl rfl rfl rfl rfl rfl rfl rfl rfl ?_
  refine xb_run zbs 1 rfl rfl ?_
  refine xb_end ?_
  refine y_nf ?_
  cases h
  refine y_ret ?_
  exact ends_retB 0 rfl rfl Has.nil ⟨rfl, rfl⟩

/-- folkmoot/folkmootlaw15.vote -/
def F23  : Option (Record) :=
  some (⟨1, 2, 1, (⟨0, 0, 0, (⟨[], []⟩ : Config), []⟩ : Entry), 0, (⟨0, 0, (⟨[], []⟩ : Config), []⟩ : Snapshot)⟩ : Record)
theorem f23_ok  (y : Record) (h : F23  = some y) : CallB (evalL tis funs hints) noP 23 [] [] (fun r ob => r = .ret (.agg (Record.cells 0 y)) ∧ ob = []) := by
  refine ansB_of rfl rfl rfl rfl fun om pi hp => ?_
  unfold F23 at h
  refine y_seq ?_
  refine y_region rfl rfl ?_
  refine xb_allocL zb36 rfl rfl rfl rfl rfl rfl rfl rfl rfl rfl ?_
  refine xb_end ?_
  refine y_nf ?_
  refine y_seq ?_
  refine y_region rfl rfl ?_
  refine xb_run zbs 1 rfl rfl ?_
  refine xb_storeL (ZB := zbs) (c' := [.int .i64 1, .int .i64 2, .int .i64 1, .int .i64 0, .int .i64 0, .int .i64 0, .ls (List.map ci []) 1 0 0, .ls (List.map ci []) 1 0 0, .str [], .int .i64 0, .int .i64 0, .int .i64 0, .ls (List.map ci []) 1 0 0, .ls (List.map ci []) 1 0 0, .str []]) rfl rfl rfl rfl rfl rfl rfl rfl rfl rfl rfl ?_
  refine xb_end ?_
  refine y_nf ?_
  cases h
  refine y_ret ?_
  exact ends_retB 0 rfl rfl Has.nil ⟨rfl, rfl⟩

/-- folkmoot/folkmootlaw15.entry -/
def F24 (a0 : Int) : Option (Record) :=
  some (⟨2, 0, 0, (⟨a0, 2, 1, (⟨[], []⟩ : Config), []⟩ : Entry), 0, (⟨0, 0, (⟨[], []⟩ : Config), []⟩ : Snapshot)⟩ : Record)
theorem f24_ok (a0 : Int) (y : Record) (h : F24 a0 = some y) : CallB (evalL tis funs hints) noP 24 [.int .i64 a0] [] (fun r ob => r = .ret (.agg (Record.cells 0 y)) ∧ ob = []) := by
  refine ansB_of rfl rfl rfl rfl fun om pi hp => ?_
  unfold F24 at h
  refine y_seq ?_
  refine y_region rfl rfl ?_
  refine xb_allocL zb36 rfl rfl rfl rfl rfl rfl rfl rfl rfl rfl ?_
  refine xb_end ?_
  refine y_nf ?_
  refine y_seq ?_
  refine y_region rfl rfl ?_
  refine xb_run zbs 3 rfl rfl ?_
  refine xb_storeL (ZB := zbs) (c' := [.int .i64 2, .int .i64 0, .int .i64 0, .int .i64 a0, .int .i64 2, .int .i64 1, .ls (List.map ci []) 1 0 0, .ls (List.map ci []) 1 0 0, .str [], .int .i64 0, .int .i64 0, .int .i64 0, .ls (List.map ci []) 1 0 0, .ls (List.map ci []) 1 0 0, .str []]) rfl rfl rfl rfl rfl rfl rfl rfl rfl rfl rfl ?_
  refine xb_end ?_
  refine y_nf ?_
  cases h
  refine y_ret ?_
  exact ends_retB 0 rfl rfl Has.nil ⟨rfl, rfl⟩

def P33 : Pr (Unit) → RB → LO → Prop
  | .ret y, r, ob => r = .ret (.tup []) ∧ ob = []
  | .pan e, r, ob => r = .pan (.iface 77 (.agg [.int .i64 e])) ∧ ob = []
/-- folkmoot/stable.is -/
def F33 (a0 : Bool) (a1 : Int) : Option (Pr (Unit)) :=
  bif (!a0) then (some (.pan a1)) else (some (.ret ()))
theorem f33_ok (a0 : Bool) (a1 : Int) (y : Pr (Unit)) (h : F33 a0 a1 = some y) : CallB (evalL tis funs hints) noP 33 [.bool a0, .int .i64 a1] [] (P33 y) := by
  refine ansB_of rfl rfl rfl rfl fun om pi hp => ?_
  unfold F33 at h
  refine y_seq ?_
  refine y_region rfl rfl ?_
  refine xb_run zbs 2 rfl rfl ?_
  refine xb_end ?_
  refine y_nf ?_
  refine y_cond rfl (fun hc => ?_) (fun hc => ?_)
  · replace h := condT h hc
    refine y_region rfl rfl ?_
    refine xb_run zbs 3 rfl rfl ?_
    refine xb_panic rfl rfl rfl ?_
    cases h
    exact ends_panB 0 Has.nil ⟨rfl, rfl⟩
  · replace h := condF h hc
    refine y_skip ?_
    cases h
    exact ends_retB 0 rfl rfl Has.nil ⟨rfl, rfl⟩

/-- (*folkmoot/stable.fold).last -/
def F50 (a0 : Fold) : Option (Int) :=
  some (fwrap .i64 (a0.k.Snap.Index + (len a0.k.Entries)))
theorem f50_ok (a0 : Fold) (y : Int) (h : F50 a0 = some y) : CallB (evalL tis funs hints) noP 50 [.ptr 64 0] [(64, (Fold.cells 1 a0))] (fun r ob => r = .ret (.int .i64 y) ∧ ob = []) := by
  refine ansB_of rfl rfl rfl rfl fun om pi hp => ?_
  unfold F50 at h
  refine y_seq ?_
  refine y_region rfl rfl ?_
  refine xb_run zbs 1 rfl rfl ?_
  refine xb_end ?_
  refine y_nf ?_
  refine y_seq ?_
  refine y_region rfl rfl ?_
  refine xb_run zbs 11 rfl rfl ?_
  refine xb_pure rfl (pLenB rfl rfl rfl rfl rfl) rfl rfl rfl rfl ?_
  refine xb_run zbs 2 rfl rfl ?_
  refine xb_end ?_
  refine y_nf ?_
  cases h
  refine y_ret ?_
  exact ends_retB 0 rfl rfl Has.nil ⟨rfl, rfl⟩

def P35 : Pr (Fold) → RB → LO → Prop
  | .ret y, r, ob => r = .ret (.tup []) ∧ ob = [(64, [.int .i64 y.k.Term, .int .i64 y.k.Vote, .int .i64 y.k.Snap.Index, .int .i64 y.k.Snap.Term, .ls (List.map ci y.k.Snap.Config.Voters) 1 0 4722366482869645213696, .ls (List.map ci y.k.Snap.Config.Learners) 1 0 4722366482869645213696, .str y.k.Snap.Data, .ls (List.map Entry.row y.k.Entries) 6 71 4722366482869645213696, .int .i64 y.r_.Kind, .int .i64 y.r_.Term, .int .i64 y.r_.Vote, .int .i64 y.r_.Entry.Index, .int .i64 y.r_.Entry.Term, .int .i64 y.r_.Entry.Kind, .ls (List.map ci y.r_.Entry.Config.Voters) 1 0 1, .ls (List.map ci y.r_.Entry.Config.Learners) 1 0 1, .str y.r_.Entry.Data, .int .i64 y.r_.Index, .int .i64 y.r_.Snap.Index, .int .i64 y.r_.Snap.Term, .ls (List.map ci y.r_.Snap.Config.Voters) 1 0 1, .ls (List.map ci y.r_.Snap.Config.Learners) 1 0 1, .str y.r_.Snap.Data])]
  | .pan e, r, ob => r = .pan (.iface 77 (.agg [.int .i64 e])) ∧ ob = []
/-- (*folkmoot/stable.fold).vote -/
def F35 (a0 : Fold) : Option (Pr (Fold)) :=
  (F33 (decide (a0.r_.Term ≥ a0.k.Term)) 140).bind fun r1 => prE r1 (fun r3 => some (.ret (⟨(⟨a0.r_.Term, a0.r_.Vote, a0.k.Snap, a0.k.Entries⟩ : Kept), a0.r_⟩ : Fold))) (fun v4 => some (.pan v4))
theorem f35_ok (a0 : Fold) (y : Pr (Fold)) (h : F35 a0 = some y) : CallB (evalL tis funs hints) (fun t => Nat.beq t 1064) 35 [.ptr 64 0] [(64, [.int .i64 a0.k.Term, .int .i64 a0.k.Vote, .int .i64 a0.k.Snap.Index, .int .i64 a0.k.Snap.Term, .ls (List.map ci a0.k.Snap.Config.Voters) 1 0 4722366482869645213696, .ls (List.map ci a0.k.Snap.Config.Learners) 1 0 4722366482869645213696, .str a0.k.Snap.Data, .ls (List.map Entry.row a0.k.Entries) 6 71 4722366482869645213696, .int .i64 a0.r_.Kind, .int .i64 a0.r_.Term, .int .i64 a0.r_.Vote, .int .i64 a0.r_.Entry.Index, .int .i64 a0.r_.Entry.Term, .int .i64 a0.r_.Entry.Kind, .ls (List.map ci a0.r_.Entry.Config.Voters) 1 0 1, .ls (List.map ci a0.r_.Entry.Config.Learners) 1 0 1, .str a0.r_.Entry.Data, .int .i64 a0.r_.Index, .int .i64 a0.r_.Snap.Index, .int .i64 a0.r_.Snap.Term, .ls (List.map ci a0.r_.Snap.Config.Voters) 1 0 1, .ls (List.map ci a0.r_.Snap.Config.Learners) 1 0 1, .str a0.r_.Snap.Data])] (P35 y) := by
  refine ansB_of rfl rfl rfl rfl fun om pi hp => ?_
  unfold F35 at h
  refine y_seq ?_
  refine y_region rfl rfl ?_
  refine xb_run zbs 11 rfl rfl ?_
  obtain ⟨r1, hf2, h⟩ := bnd h
  cases r1 with
  | ret r3 =>
    replace h := prR h
    refine xb_call (ZB := zbs) (P := noP) ⟨[], [], [], 0, 1⟩ rfl rfl rfl rfl rfl rfl rfl rfl rfl rfl (f33_ok (decide (a0.r_.Term ≥ a0.k.Term)) 140 _ hf2) rfl rfl rfl (fun v obr hq => ?_) (fun v obr hq => ?_)
    · obtain ⟨hv, rfl⟩ := hq
      cases hv
      refine xb_re (v' := .tup []) (lo' := []) (ob' := [(64, [.int .i64 a0.k.Term, .int .i64 a0.k.Vote, .int .i64 a0.k.Snap.Index, .int .i64 a0.k.Snap.Term, .ls (List.map ci a0.k.Snap.Config.Voters) 1 0 4722366482869645213696, .ls (List.map ci a0.k.Snap.Config.Learners) 1 0 4722366482869645213696, .str a0.k.Snap.Data, .ls (List.map Entry.row a0.k.Entries) 6 71 4722366482869645213696, .int .i64 a0.r_.Kind, .int .i64 a0.r_.Term, .int .i64 a0.r_.Vote, .int .i64 a0.r_.Entry.Index, .int .i64 a0.r_.Entry.Term, .int .i64 a0.r_.Entry.Kind, .ls (List.map ci a0.r_.Entry.Config.Voters) 1 0 1, .ls (List.map ci a0.r_.Entry.Config.Learners) 1 0 1, .str a0.r_.Entry.Data, .int .i64 a0.r_.Index, .int .i64 a0.r_.Snap.Index, .int .i64 a0.r_.Snap.Term, .ls (List.map ci a0.r_.Snap.Config.Voters) 1 0 1, .ls (List.map ci a0.r_.Snap.Config.Learners) 1 0 1, .str a0.r_.Snap.Data])]) rfl rfl rfl ?_
      refine xb_end ?_
      refine y_nf ?_
      refine y_region rfl rfl ?_
      refine xb_run zbs 15 rfl rfl ?_
      refine xb_storeO (ZB := zbs) (c' := [.int .i64 a0.r_.Term, .int .i64 a0.k.Vote, .int .i64 a0.k.Snap.Index, .int .i64 a0.k.Snap.Term, .ls (List.map ci a0.k.Snap.Config.Voters) 1 0 4722366482869645213696, .ls (List.map ci a0.k.Snap.Config.Learners) 1 0 4722366482869645213696, .str a0.k.Snap.Data, .ls (List.map Entry.row a0.k.Entries) 6 71 4722366482869645213696, .int .i64 a0.r_.Kind, .int .i64 a0.r_.Term, .int .i64 a0.r_.Vote, .int .i64 a0.r_.Entry.Index, .int .i64 a0.r_.Entry.Term, .int .i64 a0.r_.Entry.Kind, .ls (List.map ci a0.r_.Entry.Config.Voters) 1 0 1, .ls (List.map ci a0.r_.Entry.Config.Learners) 1 0 1, .str a0.r_.Entry.Data, .int .i64 a0.r_.Index, .int .i64 a0.r_.Snap.Index, .int .i64 a0.r_.Snap.Term, .ls (List.map ci a0.r_.Snap.Config.Voters) 1 0 1, .ls (List.map ci a0.r_.Snap.Config.Learners) 1 0 1, .str a0.r_.Snap.Data]) rfl rfl rfl rfl rfl rfl rfl rfl rfl (.inr rfl) rfl ?_
      refine xb_run zbs 3 rfl rfl ?_
      refine xb_storeO (ZB := zbs) (c' := [.int .i64 a0.r_.Term, .int .i64 a0.r_.Vote, .int .i64 a0.k.Snap.Index, .int .i64 a0.k.Snap.Term, .ls (List.map ci a0.k.Snap.Config.Voters) 1 0 4722366482869645213696, .ls (List.map ci a0.k.Snap.Config.Learners) 1 0 4722366482869645213696, .str a0.k.Snap.Data, .ls (List.map Entry.row a0.k.Entries) 6 71 4722366482869645213696, .int .i64 a0.r_.Kind, .int .i64 a0.r_.Term, .int .i64 a0.r_.Vote, .int .i64 a0.r_.Entry.Index, .int .i64 a0.r_.Entry.Term, .int .i64 a0.r_.Entry.Kind, .ls (List.map ci a0.r_.Entry.Config.Voters) 1 0 1, .ls (List.map ci a0.r_.Entry.Config.Learners) 1 0 1, .str a0.r_.Entry.Data, .int .i64 a0.r_.Index, .int .i64 a0.r_.Snap.Index, .int .i64 a0.r_.Snap.Term, .ls (List.map ci a0.r_.Snap.Config.Voters) 1 0 1, .ls (List.map ci a0.r_.Snap.Config.Learners) 1 0 1, .str a0.r_.Snap.Data]) rfl rfl rfl rfl rfl rfl rfl rfl rfl (.inr rfl) rfl ?_
      refine xb_end ?_
      cases h
      exact ends_retB (obr := [(64, [.int .i64 a0.r_.Term, .int .i64 a0.r_.Vote, .int .i64 a0.k.Snap.Index, .int .i64 a0.k.Snap.Term, .ls (List.map ci a0.k.Snap.Config.Voters) 1 0 4722366482869645213696, .ls (List.map ci a0.k.Snap.Config.Learners) 1 0 4722366482869645213696, .str a0.k.Snap.Data, .ls (List.map Entry.row a0.k.Entries) 6 71 4722366482869645213696, .int .i64 a0.r_.Kind, .int .i64 a0.r_.Term, .int .i64 a0.r_.Vote, .int .i64 a0.r_.Entry.Index, .int .i64 a0.r_.Entry.Term, .int .i64 a0.r_.Entry.Kind, .ls (List.map ci a0.r_.Entry.Config.Voters) 1 0 1, .ls (List.map ci a0.r_.Entry.Config.Learners) 1 0 1, .str a0.r_.Entry.Data, .int .i64 a0.r_.Index, .int .i64 a0.r_.Snap.Index, .int .i64 a0.r_.Snap.Term, .ls (List.map ci a0.r_.Snap.Config.Voters) 1 0 1, .ls (List.map ci a0.r_.Snap.Config.Learners) 1 0 1, .str a0.r_.Snap.Data])]) 0 rfl rfl (Has.cons rfl Has.nil) ⟨rfl, rfl⟩
    · obtain ⟨hv, _⟩ := hq
      cases hv
  | pan v4 =>
    replace h := prP h
    refine xb_call (ZB := zbs) (P := noP) ⟨[], [], [], 0, 1⟩ rfl rfl rfl rfl rfl rfl rfl rfl rfl rfl (f33_ok (decide (a0.r_.Term ≥ a0.k.Term)) 140 _ hf2) rfl rfl rfl (fun v obr hq => ?_) (fun v obr hq => ?_)
    · obtain ⟨hv, _⟩ := hq
      cases hv
    · obtain ⟨hv, rfl⟩ := hq
      cases hv
      cases h
      exact ends_panB 0 Has.nil ⟨rfl, rfl⟩

def P37 : Pr (Fold) → RB → LO → Prop
  | .ret y, r, ob => r = .ret (.tup []) ∧ ob = [(64, [.int .i64 y.k.Term, .int .i64 y.k.Vote, .int .i64 y.k.Snap.Index, .int .i64 y.k.Snap.Term, .ls (List.map ci y.k.Snap.Config.Voters) 1 0 4722366482869645213696, .ls (List.map ci y.k.Snap.Config.Learners) 1 0 4722366482869645213696, .str y.k.Snap.Data, .ls (List.map Entry.row y.k.Entries) 6 71 4722366482869645213696, .int .i64 y.r_.Kind, .int .i64 y.r_.Term, .int .i64 y.r_.Vote, .int .i64 y.r_.Entry.Index, .int .i64 y.r_.Entry.Term, .int .i64 y.r_.Entry.Kind, .ls (List.map ci y.r_.Entry.Config.Voters) 1 0 1, .ls (List.map ci y.r_.Entry.Config.Learners) 1 0 1, .str y.r_.Entry.Data, .int .i64 y.r_.Index, .int .i64 y.r_.Snap.Index, .int .i64 y.r_.Snap.Term, .ls (List.map ci y.r_.Snap.Config.Voters) 1 0 1, .ls (List.map ci y.r_.Snap.Config.Learners) 1 0 1, .str y.r_.Snap.Data])]
  | .pan e, r, ob => r = .pan (.iface 77 (.agg [.int .i64 e])) ∧ ob = []
/-- (*folkmoot/stable.fold).cut -/
def F37 (a0 : Fold) : Option (Pr (Fold)) :=
  jn ((sli a0.k.Entries 0 (fwrap .i64 ((fwrap .i64 (a0.r_.Index - a0.k.Snap.Index)) - 1))).bind fun x13 => some (.ret (⟨(⟨a0.k.Term, a0.k.Vote, a0.k.Snap, x13⟩ : Kept), a0.r_⟩ : Fold))) fun J1 => bif (decide (a0.r_.Index > a0.k.Snap.Index)) then ((F50 a0).bind fun r7 => (F33 (decide (a0.r_.Index ≤ r7)) 140).bind fun r9 => prE r9 (fun r11 => J1) (fun v12 => some (.pan v12))) else ((F33 false 140).bind fun r3 => prE r3 (fun r5 => J1) (fun v6 => some (.pan v6)))
theorem f37_ok (a0 : Fold) (y : Pr (Fold)) (h : F37 a0 = some y) : CallB (evalL tis funs hints) (fun t => Nat.beq t 1064) 37 [.ptr 64 0] [(64, [.int .i64 a0.k.Term, .int .i64 a0.k.Vote, .int .i64 a0.k.Snap.Index, .int .i64 a0.k.Snap.Term, .ls (List.map ci a0.k.Snap.Config.Voters) 1 0 4722366482869645213696, .ls (List.map ci a0.k.Snap.Config.Learners) 1 0 4722366482869645213696, .str a0.k.Snap.Data, .ls (List.map Entry.row a0.k.Entries) 6 71 4722366482869645213696, .int .i64 a0.r_.Kind, .int .i64 a0.r_.Term, .int .i64 a0.r_.Vote, .int .i64 a0.r_.Entry.Index, .int .i64 a0.r_.Entry.Term, .int .i64 a0.r_.Entry.Kind, .ls (List.map ci a0.r_.Entry.Config.Voters) 1 0 1, .ls (List.map ci a0.r_.Entry.Config.Learners) 1 0 1, .str a0.r_.Entry.Data, .int .i64 a0.r_.Index, .int .i64 a0.r_.Snap.Index, .int .i64 a0.r_.Snap.Term, .ls (List.map ci a0.r_.Snap.Config.Voters) 1 0 1, .ls (List.map ci a0.r_.Snap.Config.Learners) 1 0 1, .str a0.r_.Snap.Data])] (P37 y) := by
  refine ansB_of rfl rfl rfl rfl fun om pi hp => ?_
  unfold F37 at h
  obtain ⟨J1, hJ1, h⟩ := jnE h
  refine y_join0 (df' := []) [(0, .v (.ptr 64 0))] [] ([(64, [.int .i64 a0.k.Term, .int .i64 a0.k.Vote, .int .i64 a0.k.Snap.Index, .int .i64 a0.k.Snap.Term, .ls (List.map ci a0.k.Snap.Config.Voters) 1 0 4722366482869645213696, .ls (List.map ci a0.k.Snap.Config.Learners) 1 0 4722366482869645213696, .str a0.k.Snap.Data, .ls (List.map Entry.row a0.k.Entries) 6 71 4722366482869645213696, .int .i64 a0.r_.Kind, .int .i64 a0.r_.Term, .int .i64 a0.r_.Vote, .int .i64 a0.r_.Entry.Index, .int .i64 a0.r_.Entry.Term, .int .i64 a0.r_.Entry.Kind, .ls (List.map ci a0.r_.Entry.Config.Voters) 1 0 1, .ls (List.map ci a0.r_.Entry.Config.Learners) 1 0 1, .str a0.r_.Entry.Data, .int .i64 a0.r_.Index, .int .i64 a0.r_.Snap.Index, .int .i64 a0.r_.Snap.Term, .ls (List.map ci a0.r_.Snap.Config.Voters) 1 0 1, .ls (List.map ci a0.r_.Snap.Config.Learners) 1 0 1, .str a0.r_.Snap.Data])]) (J1 = some y) ?_ ?_
  · refine y_region rfl rfl ?_
    refine xb_run zbs 13 rfl rfl ?_
    cases hg2 : (decide (a0.r_.Index > a0.k.Snap.Index)) with
    | false =>
      replace h := condF h hg2
      refine xb_run zbs 4 rfl rfl ?_
      refine xb_skipL (i := 17) rfl rfl rfl rfl rfl ?_
      refine xb_run zbs 1 rfl rfl ?_
      refine xb_skip rfl rfl rfl ?_
      refine xb_run zbs 2 rfl rfl ?_
      obtain ⟨r3, hf4, h⟩ := bnd h
      cases r3 with
      | ret r5 =>
        replace h := prR h
        refine xb_call (ZB := zbs) (P := noP) ⟨[], [], [], 0, 1⟩ rfl rfl rfl rfl rfl rfl rfl rfl rfl rfl (f33_ok false 140 _ hf4) rfl rfl rfl (fun v obr hq => ?_) (fun v obr hq => ?_)
        · obtain ⟨hv, rfl⟩ := hq
          cases hv
          refine xb_re (v' := .tup []) (lo' := []) (ob' := [(64, [.int .i64 a0.k.Term, .int .i64 a0.k.Vote, .int .i64 a0.k.Snap.Index, .int .i64 a0.k.Snap.Term, .ls (List.map ci a0.k.Snap.Config.Voters) 1 0 4722366482869645213696, .ls (List.map ci a0.k.Snap.Config.Learners) 1 0 4722366482869645213696, .str a0.k.Snap.Data, .ls (List.map Entry.row a0.k.Entries) 6 71 4722366482869645213696, .int .i64 a0.r_.Kind, .int .i64 a0.r_.Term, .int .i64 a0.r_.Vote, .int .i64 a0.r_.Entry.Index, .int .i64 a0.r_.Entry.Term, .int .i64 a0.r_.Entry.Kind, .ls (List.map ci a0.r_.Entry.Config.Voters) 1 0 1, .ls (List.map ci a0.r_.Entry.Config.Learners) 1 0 1, .str a0.r_.Entry.Data, .int .i64 a0.r_.Index, .int .i64 a0.r_.Snap.Index, .int .i64 a0.r_.Snap.Term, .ls (List.map ci a0.r_.Snap.Config.Voters) 1 0 1, .ls (List.map ci a0.r_.Snap.Config.Learners) 1 0 1, .str a0.r_.Snap.Data])]) rfl rfl rfl ?_
          refine xb_end ?_
          exact ⟨(), SubW.cons rfl .refl SubW.nil, SubC'.nil, SubC'.cons rfl .refl SubC'.nil, rfl, h⟩
        · obtain ⟨hv, _⟩ := hq
          cases hv
      | pan v6 =>
        replace h := prP h
        refine xb_call (ZB := zbs) (P := noP) ⟨[], [], [], 0, 1⟩ rfl rfl rfl rfl rfl rfl rfl rfl rfl rfl (f33_ok false 140 _ hf4) rfl rfl rfl (fun v obr hq => ?_) (fun v obr hq => ?_)
        · obtain ⟨hv, _⟩ := hq
          cases hv
        · obtain ⟨hv, rfl⟩ := hq
          cases hv
          cases h
          exact ends_panB 0 Has.nil ⟨rfl, rfl⟩
    | true =>
      replace h := condT h hg2
      refine xb_run zbs 4 rfl rfl ?_
      refine xb_look' (i := 17) (ZB := zbs) rfl rfl rfl rfl rfl rfl rfl rfl rfl ?_
      refine xb_run zbs 1 rfl rfl ?_
      obtain ⟨r7, hf8, h⟩ := bnd h
      refine xb_call (ZB := zbs) (P := noP) ⟨[], [(64, 64)], [], 5902958103587056517121, 1⟩ rfl rfl rfl rfl rfl rfl rfl rfl rfl rfl (f50_ok a0 _ hf8) rfl rfl rfl (fun v obr hq => ?_) (fun v obr hq => ?_)
      · obtain ⟨hv, rfl⟩ := hq
        cases hv
        refine xb_re (v' := .int .i64 r7) (lo' := []) (ob' := [(64, [.int .i64 a0.k.Term, .int .i64 a0.k.Vote, .int .i64 a0.k.Snap.Index, .int .i64 a0.k.Snap.Term, .ls (List.map ci a0.k.Snap.Config.Voters) 1 0 4722366482869645213696, .ls (List.map ci a0.k.Snap.Config.Learners) 1 0 4722366482869645213696, .str a0.k.Snap.Data, .ls (List.map Entry.row a0.k.Entries) 6 71 4722366482869645213696, .int .i64 a0.r_.Kind, .int .i64 a0.r_.Term, .int .i64 a0.r_.Vote, .int .i64 a0.r_.Entry.Index, .int .i64 a0.r_.Entry.Term, .int .i64 a0.r_.Entry.Kind, .ls (List.map ci a0.r_.Entry.Config.Voters) 1 0 1, .ls (List.map ci a0.r_.Entry.Config.Learners) 1 0 1, .str a0.r_.Entry.Data, .int .i64 a0.r_.Index, .int .i64 a0.r_.Snap.Index, .int .i64 a0.r_.Snap.Term, .ls (List.map ci a0.r_.Snap.Config.Voters) 1 0 1, .ls (List.map ci a0.r_.Snap.Config.Learners) 1 0 1, .str a0.r_.Snap.Data])]) rfl rfl rfl ?_
        refine xb_run zbs 2 rfl rfl ?_
        obtain ⟨r9, hf10, h⟩ := bnd h
        cases r9 with
        | ret r11 =>
          replace h := prR h
          refine xb_call (ZB := zbs) (P := noP) ⟨[], [], [], 0, 1⟩ rfl rfl rfl rfl rfl rfl rfl rfl rfl rfl (f33_ok (decide (a0.r_.Index ≤ r7)) 140 _ hf10) rfl rfl rfl (fun v obr hq => ?_) (fun v obr hq => ?_)
          · obtain ⟨hv, rfl⟩ := hq
            cases hv
            refine xb_re (v' := .tup []) (lo' := []) (ob' := [(64, [.int .i64 a0.k.Term, .int .i64 a0.k.Vote, .int .i64 a0.k.Snap.Index, .int .i64 a0.k.Snap.Term, .ls (List.map ci a0.k.Snap.Config.Voters) 1 0 4722366482869645213696, .ls (List.map ci a0.k.Snap.Config.Learners) 1 0 4722366482869645213696, .str a0.k.Snap.Data, .ls (List.map Entry.row a0.k.Entries) 6 71 4722366482869645213696, .int .i64 a0.r_.Kind, .int .i64 a0.r_.Term, .int .i64 a0.r_.Vote, .int .i64 a0.r_.Entry.Index, .int .i64 a0.r_.Entry.Term, .int .i64 a0.r_.Entry.Kind, .ls (List.map ci a0.r_.Entry.Config.Voters) 1 0 1, .ls (List.map ci a0.r_.Entry.Config.Learners) 1 0 1, .str a0.r_.Entry.Data, .int .i64 a0.r_.Index, .int .i64 a0.r_.Snap.Index, .int .i64 a0.r_.Snap.Term, .ls (List.map ci a0.r_.Snap.Config.Voters) 1 0 1, .ls (List.map ci a0.r_.Snap.Config.Learners) 1 0 1, .str a0.r_.Snap.Data])]) rfl rfl rfl ?_
            refine xb_end ?_
            exact ⟨(), SubW.cons rfl .refl SubW.nil, SubC'.nil, SubC'.cons rfl .refl SubC'.nil, rfl, h⟩
          · obtain ⟨hv, _⟩ := hq
            cases hv
        | pan v12 =>
          replace h := prP h
          refine xb_call (ZB := zbs) (P := noP) ⟨[], [], [], 0, 1⟩ rfl rfl rfl rfl rfl rfl rfl rfl rfl rfl (f33_ok (decide (a0.r_.Index ≤ r7)) 140 _ hf10) rfl rfl rfl (fun v obr hq => ?_) (fun v obr hq => ?_)
          · obtain ⟨hv, _⟩ := hq
            cases hv
          · obtain ⟨hv, rfl⟩ := hq
            cases hv
            cases h
            exact ends_panB 0 Has.nil ⟨rfl, rfl⟩
      · obtain ⟨hv, _⟩ := hq
        cases hv
  · intro h
    subst hJ1
    refine y_region rfl rfl ?_
    refine xb_run zbs 19 rfl rfl ?_
    obtain ⟨x13, hx14, h⟩ := bnd h
    refine xb_pure rfl (pSliceB rfl rfl rfl rfl rfl (.inl ⟨rfl, rfl⟩) (.inr ⟨_, rfl⟩) hx14) rfl rfl rfl rfl ?_
    refine xb_run zbs 3 rfl rfl ?_
    refine xb_storeO (ZB := zbs) (c' := [.int .i64 a0.k.Term, .int .i64 a0.k.Vote, .int .i64 a0.k.Snap.Index, .int .i64 a0.k.Snap.Term, .ls (List.map ci a0.k.Snap.Config.Voters) 1 0 4722366482869645213696, .ls (List.map ci a0.k.Snap.Config.Learners) 1 0 4722366482869645213696, .str a0.k.Snap.Data, .ls (List.map Entry.row x13) 6 71 4722366482869645213696, .int .i64 a0.r_.Kind, .int .i64 a0.r_.Term, .int .i64 a0.r_.Vote, .int .i64 a0.r_.Entry.Index, .int .i64 a0.r_.Entry.Term, .int .i64 a0.r_.Entry.Kind, .ls (List.map ci a0.r_.Entry.Config.Voters) 1 0 1, .ls (List.map ci a0.r_.Entry.Config.Learners) 1 0 1, .str a0.r_.Entry.Data, .int .i64 a0.r_.Index, .int .i64 a0.r_.Snap.Index, .int .i64 a0.r_.Snap.Term, .ls (List.map ci a0.r_.Snap.Config.Voters) 1 0 1, .ls (List.map ci a0.r_.Snap.Config.Learners) 1 0 1, .str a0.r_.Snap.Data]) rfl rfl rfl rfl rfl rfl rfl rfl rfl (.inr rfl) rfl ?_
    refine xb_end ?_
    cases h
    exact ends_retB (obr := [(64, [.int .i64 a0.k.Term, .int .i64 a0.k.Vote, .int .i64 a0.k.Snap.Index, .int .i64 a0.k.Snap.Term, .ls (List.map ci a0.k.Snap.Config.Voters) 1 0 4722366482869645213696, .ls (List.map ci a0.k.Snap.Config.Learners) 1 0 4722366482869645213696, .str a0.k.Snap.Data, .ls (List.map Entry.row x13) 6 71 4722366482869645213696, .int .i64 a0.r_.Kind, .int .i64 a0.r_.Term, .int .i64 a0.r_.Vote, .int .i64 a0.r_.Entry.Index, .int .i64 a0.r_.Entry.Term, .int .i64 a0.r_.Entry.Kind, .ls (List.map ci a0.r_.Entry.Config.Voters) 1 0 1, .ls (List.map ci a0.r_.Entry.Config.Learners) 1 0 1, .str a0.r_.Entry.Data, .int .i64 a0.r_.Index, .int .i64 a0.r_.Snap.Index, .int .i64 a0.r_.Snap.Term, .ls (List.map ci a0.r_.Snap.Config.Voters) 1 0 1, .ls (List.map ci a0.r_.Snap.Config.Learners) 1 0 1, .str a0.r_.Snap.Data])]) 0 rfl rfl (Has.cons rfl Has.nil) ⟨rfl, rfl⟩

/-- slices.Clone[folkmoot/api.Set,int] -/
def F60 (a0 : List Int) : Option (List Int) := app [] a0
theorem f60_ok (a0 : List Int) (y : List Int) (h : F60 a0 = some y) : CallB (evalL tis funs hints) noP 60 [.ls (List.map ci a0) 1 0 1] [] (fun r ob => r = .ret (.ls (List.map ci y) 1 0 2) ∧ ob = []) := by
  refine ansB_of rfl rfl rfl rfl fun om pi hp => ?_
  unfold F60 at h
  refine y_seq (y_region rfl rfl (xb_run zbs 1 rfl rfl (xb_end ?_)))
  refine y_nf ?_
  refine y_seq (y_seq (y_region rfl rfl (xb_run zbs 1 rfl rfl (xb_isnil rfl rfl rfl rfl rfl rfl rfl rfl rfl (fun p hp => xb_end ?_)))))
  refine y_nf ?_
  refine y_cond rfl (fun hc => ?_) (fun hc => ?_)
  · have h0 : a0 = [] := List.map_eq_nil_iff.1 (hp hc)
    subst h0
    refine y_seq (y_region rfl rfl (xb_run zbs 1 rfl rfl (xb_end ?_)))
    refine y_nf ?_
    cases h
    exact y_ret (ends_retB 2 rfl rfl Has.nil ⟨rfl, rfl⟩)
  · refine y_skip ?_
    refine y_seq (y_region rfl rfl ?_)
    refine xb_slice (ZB := zbs) (es := List.map ci []) 2 0 rfl rfl rfl rfl rfl rfl rfl rfl rfl rfl rfl rfl rfl rfl rfl rfl rfl ?_
    refine xb_run zbs 1 rfl rfl ?_
    refine xb_appS (ZB := zbs) 2 (fun _ => rfl) rfl rfl rfl rfl rfl rfl rfl rfl rfl h rfl rfl (.inl rfl) rfl rfl rfl ?_
    refine xb_run zbs 1 rfl rfl (xb_end ?_)
    refine y_nf ?_
    exact y_ret (ends_retB 2 rfl rfl Has.nil ⟨rfl, rfl⟩)

/-- folkmoot/stable.ownConfig -/
def F51 (a0 : Config) : Option (Config) :=
  (F60 a0.Voters).bind fun r1 => (F60 a0.Learners).bind fun r3 => some (⟨r1, r3⟩ : Config)
theorem f51_ok (a0 : Config) (y : Config) (h : F51 a0 = some y) : CallB (evalL tis funs hints) noP 51 [.agg (Config.cells 1 a0)] [] (fun r ob => r = .ret (.agg (Config.cells 2 y)) ∧ ob = []) := by
  refine ansB_of rfl rfl rfl rfl fun om pi hp => ?_
  unfold F51 at h
  refine y_seq ?_
  refine y_region rfl rfl ?_
  refine xb_boxL (ZB := zbs) rfl rfl rfl rfl rfl rfl rfl rfl rfl rfl rfl ?_
  refine xb_allocL zb25 rfl rfl rfl rfl rfl rfl rfl rfl rfl rfl ?_
  refine xb_end ?_
  refine y_nf ?_
  refine y_seq ?_
  refine y_region rfl rfl ?_
  refine xb_run zbs 3 rfl rfl ?_
  refine xb_look' (i := 4) (ZB := zbs) rfl rfl rfl rfl rfl rfl rfl rfl rfl ?_
  obtain ⟨r1, hf2, h⟩ := bnd h
  refine xb_call0 (ZB := zbs) 1 (.ls (List.map ci r1) 1 0 2) rfl rfl rfl rfl rfl rfl rfl (f60_ok a0.Voters _ hf2) rfl rfl rfl rfl ?_
  obtain ⟨r3, hf4, h⟩ := bnd h
  refine xb_call0 (ZB := zbs) 1 (.ls (List.map ci r3) 1 0 2) rfl rfl rfl rfl rfl rfl rfl (f60_ok a0.Learners _ hf4) rfl rfl rfl rfl ?_
  refine xb_run zbs 1 rfl rfl ?_
  refine xb_pk0 ?_
  refine xb_storeL (ZB := zbs) (c' := [.ls (List.map ci r1) 1 0 2, .ls (List.map ci r3) 1 0 2]) rfl rfl rfl rfl rfl rfl rfl rfl rfl rfl rfl ?_
  refine xb_end ?_
  refine y_nf ?_
  cases h
  refine y_ret ?_
  exact ends_retB 2 rfl rfl Has.nil ⟨rfl, rfl⟩

/-- folkmoot/stable.ownEntry -/
def F40 (a0 : Entry) : Option (Entry) :=
  (F51 a0.Config).bind fun r1 => some (⟨a0.Index, a0.Term, a0.Kind, r1, a0.Data⟩ : Entry)
theorem f40_ok (a0 : Entry) (y : Entry) (h : F40 a0 = some y) : CallB (evalL tis funs hints) noP 40 [.agg (Entry.cells 1 a0)] [] (fun r ob => r = .ret (.agg (Entry.cells 2 y)) ∧ ob = []) := by
  refine ansB_of rfl rfl rfl rfl fun om pi hp => ?_
  unfold F40 at h
  refine y_seq ?_
  refine y_region rfl rfl ?_
  refine xb_boxL (ZB := zbs) rfl rfl rfl rfl rfl rfl rfl rfl rfl rfl rfl ?_
  refine xb_allocL zb34 rfl rfl rfl rfl rfl rfl rfl rfl rfl rfl ?_
  refine xb_end ?_
  refine y_nf ?_
  refine y_seq ?_
  refine y_region rfl rfl ?_
  refine xb_run zbs 2 rfl rfl ?_
  obtain ⟨r1, hf2, h⟩ := bnd h
  refine xb_call0 (ZB := zbs) 1 (.agg (Config.cells 2 r1)) rfl rfl rfl rfl rfl rfl rfl (f51_ok a0.Config _ hf2) rfl rfl rfl rfl ?_
  refine xb_run zbs 1 rfl rfl ?_
  refine xb_storeL (ZB := zbs) (c' := [.int .i64 a0.Index, .int .i64 a0.Term, .int .i64 a0.Kind, .ls (List.map ci r1.Voters) 1 0 2, .ls (List.map ci r1.Learners) 1 0 2, .str a0.Data]) rfl rfl rfl rfl rfl rfl rfl rfl rfl rfl rfl ?_
  refine xb_end ?_
  refine y_nf ?_
  refine y_seq ?_
  refine y_region rfl rfl ?_
  refine xb_run zbs 1 rfl rfl ?_
  refine xb_storeL (ZB := zbs) (c' := [.int .i64 a0.Index, .int .i64 a0.Term, .int .i64 a0.Kind, .ls (List.map ci r1.Voters) 1 0 2, .ls (List.map ci r1.Learners) 1 0 2, .str a0.Data]) rfl rfl rfl rfl rfl rfl rfl rfl rfl rfl rfl ?_
  refine xb_end ?_
  refine y_nf ?_
  cases h
  refine y_ret ?_
  exact ends_retB 2 rfl rfl Has.nil ⟨rfl, rfl⟩

/-- folkmoot/stable.ownSnap -/
def F39 (a0 : Snapshot) : Option (Snapshot) :=
  (F51 a0.Config).bind fun r1 => some (⟨a0.Index, a0.Term, r1, a0.Data⟩ : Snapshot)
theorem f39_ok (a0 : Snapshot) (y : Snapshot) (h : F39 a0 = some y) : CallB (evalL tis funs hints) noP 39 [.agg (Snapshot.cells 1 a0)] [] (fun r ob => r = .ret (.agg (Snapshot.cells 2 y)) ∧ ob = []) := by
  refine ansB_of rfl rfl rfl rfl fun om pi hp => ?_
  unfold F39 at h
  refine y_seq ?_
  refine y_region rfl rfl ?_
  refine xb_boxL (ZB := zbs) rfl rfl rfl rfl rfl rfl rfl rfl rfl rfl rfl ?_
  refine xb_allocL zb27 rfl rfl rfl rfl rfl rfl rfl rfl rfl rfl ?_
  refine xb_end ?_
  refine y_nf ?_
  refine y_seq ?_
  refine y_region rfl rfl ?_
  refine xb_run zbs 2 rfl rfl ?_
  obtain ⟨r1, hf2, h⟩ := bnd h
  refine xb_call0 (ZB := zbs) 1 (.agg (Config.cells 2 r1)) rfl rfl rfl rfl rfl rfl rfl (f51_ok a0.Config _ hf2) rfl rfl rfl rfl ?_
  refine xb_run zbs 1 rfl rfl ?_
  refine xb_storeL (ZB := zbs) (c' := [.int .i64 a0.Index, .int .i64 a0.Term, .ls (List.map ci r1.Voters) 1 0 2, .ls (List.map ci r1.Learners) 1 0 2, .str a0.Data]) rfl rfl rfl rfl rfl rfl rfl rfl rfl rfl rfl ?_
  refine xb_end ?_
  refine y_nf ?_
  refine y_seq ?_
  refine y_region rfl rfl ?_
  refine xb_run zbs 1 rfl rfl ?_
  refine xb_storeL (ZB := zbs) (c' := [.int .i64 a0.Index, .int .i64 a0.Term, .ls (List.map ci r1.Voters) 1 0 2, .ls (List.map ci r1.Learners) 1 0 2, .str a0.Data]) rfl rfl rfl rfl rfl rfl rfl rfl rfl rfl rfl ?_
  refine xb_end ?_
  refine y_nf ?_
  cases h
  refine y_ret ?_
  exact ends_retB 2 rfl rfl Has.nil ⟨rfl, rfl⟩

/-- folkmoot/stable.own -/
def F16 (a0 : Kept) : Option (Kept) :=
  (F39 a0.Snap).bind fun r1 => jn (fun (v3 : List Entry) => some (⟨a0.Term, a0.Vote, r1, v3⟩ : Kept)) fun J4 => lp2 (fun (v7 : Int) (v8 : List Entry) => bif (decide (v7 < (len a0.Entries))) then ((idx a0.Entries v7).bind fun x10 => (F40 x10).bind fun r12 => (app v8 [r12]).bind fun x14 => some (.inl ((fwrap .i64 (v7 + 1)), x14))) else (some (.inr (.inl v8)))) 0 [] (fun (q : (List Entry)) => J4 q)
theorem f16_ok (a0 : Kept) (y : Kept) (h : F16 a0 = some y) : CallB (evalL tis funs hints) (fun t => Nat.beq t 87) 16 [.agg (Kept.cells 1 a0)] [] (fun r ob => r = .ret (.agg [.int .i64 y.Term, .int .i64 y.Vote, .int .i64 y.Snap.Index, .int .i64 y.Snap.Term, .ls (List.map ci y.Snap.Config.Voters) 1 0 2, .ls (List.map ci y.Snap.Config.Learners) 1 0 2, .str y.Snap.Data, .ls (List.map Entry.row y.Entries) 6 88 2]) ∧ ob = []) := by
  refine ansB_of rfl rfl rfl rfl fun om pi hp => ?_
  unfold F16 at h
  refine y_seq ?_
  refine y_region rfl rfl ?_
  refine xb_boxL (ZB := zbs) rfl rfl rfl rfl rfl rfl rfl rfl rfl rfl rfl ?_
  refine xb_allocL zb30 rfl rfl rfl rfl rfl rfl rfl rfl rfl rfl ?_
  refine xb_end ?_
  refine y_nf ?_
  refine y_seq ?_
  refine y_region rfl rfl ?_
  refine xb_run zbs 2 rfl rfl ?_
  obtain ⟨r1, hf2, h⟩ := bnd h
  refine xb_call0 (ZB := zbs) 1 (.agg (Snapshot.cells 2 r1)) rfl rfl rfl rfl rfl rfl rfl (f39_ok a0.Snap _ hf2) rfl rfl rfl rfl ?_
  refine xb_run zbs 1 rfl rfl ?_
  refine xb_storeL (ZB := zbs) (c' := [.int .i64 a0.Term, .int .i64 a0.Vote, .int .i64 r1.Index, .int .i64 r1.Term, .ls (List.map ci r1.Config.Voters) 1 0 2, .ls (List.map ci r1.Config.Learners) 1 0 2, .str r1.Data, .ls (List.map Entry.row a0.Entries) 6 0 1]) rfl rfl rfl rfl rfl rfl rfl rfl rfl rfl rfl ?_
  refine xb_end ?_
  refine y_nf ?_
  refine y_seq ?_
  refine y_region rfl rfl ?_
  refine xb_run zbs 3 rfl rfl ?_
  refine xb_end ?_
  refine y_nf ?_
  refine y_seq ?_
  refine y_region rfl rfl ?_
  refine xb_run zbs 1 rfl rfl ?_
  refine xb_storeL (ZB := zbs) (c' := [.int .i64 a0.Term, .int .i64 a0.Vote, .int .i64 r1.Index, .int .i64 r1.Term, .ls (List.map ci r1.Config.Voters) 1 0 2, .ls (List.map ci r1.Config.Learners) 1 0 2, .str r1.Data, .ls (List.map Entry.row []) 6 0 0]) rfl rfl rfl rfl rfl rfl rfl rfl rfl rfl rfl ?_
  refine xb_end ?_
  refine y_nf ?_
  obtain ⟨J4, hJ4, h⟩ := jnE h
  refine y_join1 (df' := []) (fun (v3 : List Entry) => [(1, .lr 1 0), (2, .lr 2 0)]) (fun (v3 : List Entry) => [(1, [.int .i64 a0.Term, .int .i64 a0.Vote, .int .i64 r1.Index, .int .i64 r1.Term, .ls (List.map ci r1.Config.Voters) 1 0 2, .ls (List.map ci r1.Config.Learners) 1 0 2, .str r1.Data, .ls (List.map Entry.row v3) 6 88 2]), (2, [.int .i64 0, .int .i64 0, .int .i64 0, .int .i64 0, .ls (List.map ci []) 1 0 0, .ls (List.map ci []) 1 0 0, .str [], .ls (List.map Entry.row []) 6 0 0])]) (fun (v3 : List Entry) => []) (fun (v3 : List Entry) => J4 v3 = some y) ?_ ?_
  · refine y_seq ?_
    refine y_region rfl rfl ?_
    refine xb_run zbs 1 rfl rfl ?_
    refine xb_pure rfl (pLenB rfl rfl rfl rfl rfl) rfl rfl rfl rfl ?_
    refine xb_run zbs 1 rfl rfl ?_
    refine xb_end ?_
    refine y_nf ?_
    refine y_block ?_
    refine y_lp2 h (fun (v7 : Int) (v8 : List Entry) => [(1, .lr 1 0), (2, .lr 2 0), (13, .v (.ls (List.map Entry.row a0.Entries) 6 0 1)), (14, .v (.int .i64 (len a0.Entries))), (15, .v (.int .i64 v7))]) (fun (v7 : Int) (v8 : List Entry) => [(1, [.int .i64 a0.Term, .int .i64 a0.Vote, .int .i64 r1.Index, .int .i64 r1.Term, .ls (List.map ci r1.Config.Voters) 1 0 2, .ls (List.map ci r1.Config.Learners) 1 0 2, .str r1.Data, .ls (List.map Entry.row v8) 6 88 2]), (2, [.int .i64 0, .int .i64 0, .int .i64 0, .int .i64 0, .ls (List.map ci []) 1 0 0, .ls (List.map ci []) 1 0 0, .str [], .ls (List.map Entry.row []) 6 0 0])]) (fun (v7 : Int) (v8 : List Entry) => []) (SubW.cons rfl .refl (SubW.cons rfl .refl (SubW.cons rfl .refl (SubW.cons rfl .refl (SubW.cons rfl .refl SubW.nil))))) (SubC'.cons rfl (.cons .refl (.cons .refl (.cons .refl (.cons .refl (.cons .refl (.cons .refl (.cons .refl (.cons .nil .nil)))))))) (SubC'.cons rfl .refl SubC'.nil)) SubC'.nil ?_
    intro v7 v8 w9 h
    refine y_seq ?_
    refine y_region rfl rfl ?_
    refine xb_run zbs 1 rfl rfl ?_
    refine xb_end ?_
    refine y_nf ?_
    refine y_seq ?_
    refine y_cond rfl (fun hc => ?_) (fun hc => ?_)
    · replace h := condT h hc
      refine y_skip ?_
      refine y_nf ?_
      refine y_seq ?_
      refine y_block ?_
      refine y_seq ?_
      refine y_region rfl rfl ?_
      obtain ⟨x10, hx11, h⟩ := bnd h
      refine xb_pure rfl (pIdxB rfl rfl rfl rfl hx11) rfl rfl rfl rfl ?_
      refine xb_run zbs 1 rfl rfl ?_
      refine xb_allocL zb34 rfl rfl rfl rfl rfl rfl rfl rfl rfl rfl ?_
      refine xb_storeL (ZB := zbs) (c' := (Entry.cells 1 x10)) rfl rfl rfl rfl rfl rfl rfl rfl rfl rfl rfl ?_
      refine xb_end ?_
      refine y_nf ?_
      refine y_region rfl rfl ?_
      refine xb_run zbs 1 rfl rfl ?_
      refine xb_look' (i := 1) (ZB := zbs) rfl rfl rfl rfl rfl rfl rfl rfl rfl ?_
      refine xb_run zbs 1 rfl rfl ?_
      obtain ⟨r12, hf13, h⟩ := bnd h
      refine xb_call0 (ZB := zbs) 1 (.agg (Entry.cells 2 r12)) rfl rfl rfl rfl rfl rfl rfl (f40_ok x10 _ hf13) rfl rfl rfl rfl ?_
      refine xb_slice (ZB := zbs) (es := List.map Entry.row [r12]) 2 2 rfl rfl rfl rfl rfl rfl rfl rfl rfl rfl rfl rfl rfl rfl rfl rfl rfl ?_
      obtain ⟨x14, ha15, h⟩ := bnd h
      refine xb_app (ZB := zbs) 87 2 rfl rfl rfl rfl rfl rfl rfl rfl rfl ha15 rfl rfl rfl rfl (.inr rfl) rfl rfl rfl ?_
      refine xb_run zbs 1 rfl rfl ?_
      refine xb_pk0 ?_
      refine xb_storeL (ZB := zbs) (c' := [.int .i64 a0.Term, .int .i64 a0.Vote, .int .i64 r1.Index, .int .i64 r1.Term, .ls (List.map ci r1.Config.Voters) 1 0 2, .ls (List.map ci r1.Config.Learners) 1 0 2, .str r1.Data, .ls (List.map Entry.row x14) 6 88 2]) rfl rfl rfl rfl rfl rfl rfl rfl rfl rfl rfl ?_
      refine xb_end ?_
      refine y_nf ?_
      refine y_region rfl rfl ?_
      refine xb_run zbs 2 rfl rfl ?_
      refine xb_end ?_
      cases h
      exact ⟨((fwrap .i64 (v7 + 1)), x14), rfl, SubW.cons rfl .refl (SubW.cons rfl .refl (SubW.cons rfl .refl (SubW.cons rfl .refl (SubW.cons rfl .refl SubW.nil)))), SubC'.cons rfl .refl (SubC'.cons rfl .refl SubC'.nil), SubC'.nil, rfl⟩
    · replace h := condF h hc
      cases h
      refine y_exit ⟨_, rfl, fun h => ?_⟩
      exact ⟨v8, SubW.cons rfl .refl (SubW.cons rfl .refl SubW.nil), SubC'.cons rfl .refl (SubC'.cons rfl .refl SubC'.nil), SubC'.nil, rfl, h⟩
  · intro v3 h
    subst hJ4
    refine y_seq ?_
    refine y_region rfl rfl ?_
    refine xb_run zbs 1 rfl rfl ?_
    refine xb_storeL (ZB := zbs) (c' := [.int .i64 a0.Term, .int .i64 a0.Vote, .int .i64 r1.Index, .int .i64 r1.Term, .ls (List.map ci r1.Config.Voters) 1 0 2, .ls (List.map ci r1.Config.Learners) 1 0 2, .str r1.Data, .ls (List.map Entry.row v3) 6 88 2]) rfl rfl rfl rfl rfl rfl rfl rfl rfl rfl rfl ?_
    refine xb_end ?_
    refine y_nf ?_
    cases h
    refine y_ret ?_
    exact ends_retB 2 rfl rfl Has.nil ⟨rfl, rfl⟩

def P36 : Pr (Fold) → RB → LO → Prop
  | .ret y, r, ob => r = .ret (.tup []) ∧ ob = [(64, [.int .i64 y.k.Term, .int .i64 y.k.Vote, .int .i64 y.k.Snap.Index, .int .i64 y.k.Snap.Term, .ls (List.map ci y.k.Snap.Config.Voters) 1 0 4722366482869645213696, .ls (List.map ci y.k.Snap.Config.Learners) 1 0 4722366482869645213696, .str y.k.Snap.Data, .ls (List.map Entry.row y.k.Entries) 6 71 4722366482869645213698, .int .i64 y.r_.Kind, .int .i64 y.r_.Term, .int .i64 y.r_.Vote, .int .i64 y.r_.Entry.Index, .int .i64 y.r_.Entry.Term, .int .i64 y.r_.Entry.Kind, .ls (List.map ci y.r_.Entry.Config.Voters) 1 0 1, .ls (List.map ci y.r_.Entry.Config.Learners) 1 0 1, .str y.r_.Entry.Data, .int .i64 y.r_.Index, .int .i64 y.r_.Snap.Index, .int .i64 y.r_.Snap.Term, .ls (List.map ci y.r_.Snap.Config.Voters) 1 0 1, .ls (List.map ci y.r_.Snap.Config.Learners) 1 0 1, .str y.r_.Snap.Data])]
  | .pan e, r, ob => r = .pan (.iface 77 (.agg [.int .i64 e])) ∧ ob = []
/-- (*folkmoot/stable.fold).entry -/
def F36 (a0 : Fold) : Option (Pr (Fold)) :=
  (F50 a0).bind fun r1 => (F33 (a0.r_.Entry.Index == (fwrap .i64 (r1 + 1))) 140).bind fun r3 => prE r3 (fun r5 => (F33 (decide ((len a0.k.Entries) < 10000)) 2).bind fun r7 => prE r7 (fun r9 => (F40 a0.r_.Entry).bind fun r11 => (app a0.k.Entries [r11]).bind fun x13 => some (.ret (⟨(⟨a0.k.Term, a0.k.Vote, a0.k.Snap, x13⟩ : Kept), a0.r_⟩ : Fold))) (fun v10 => some (.pan v10))) (fun v6 => some (.pan v6))
theorem f36_ok (a0 : Fold) (y : Pr (Fold)) (h : F36 a0 = some y) : CallB (evalL tis funs hints) (fun t => Nat.beq t 70 || Nat.beq t 1064) 36 [.ptr 64 0] [(64, [.int .i64 a0.k.Term, .int .i64 a0.k.Vote, .int .i64 a0.k.Snap.Index, .int .i64 a0.k.Snap.Term, .ls (List.map ci a0.k.Snap.Config.Voters) 1 0 4722366482869645213696, .ls (List.map ci a0.k.Snap.Config.Learners) 1 0 4722366482869645213696, .str a0.k.Snap.Data, .ls (List.map Entry.row a0.k.Entries) 6 71 4722366482869645213696, .int .i64 a0.r_.Kind, .int .i64 a0.r_.Term, .int .i64 a0.r_.Vote, .int .i64 a0.r_.Entry.Index, .int .i64 a0.r_.Entry.Term, .int .i64 a0.r_.Entry.Kind, .ls (List.map ci a0.r_.Entry.Config.Voters) 1 0 1, .ls (List.map ci a0.r_.Entry.Config.Learners) 1 0 1, .str a0.r_.Entry.Data, .int .i64 a0.r_.Index, .int .i64 a0.r_.Snap.Index, .int .i64 a0.r_.Snap.Term, .ls (List.map ci a0.r_.Snap.Config.Voters) 1 0 1, .ls (List.map ci a0.r_.Snap.Config.Learners) 1 0 1, .str a0.r_.Snap.Data])] (P36 y) := by
  refine ansB_of rfl rfl rfl rfl fun om pi hp => ?_
  unfold F36 at h
  refine y_seq ?_
  refine y_region rfl rfl ?_
  refine xb_run zbs 5 rfl rfl ?_
  refine xb_look' (i := 5) (ZB := zbs) rfl rfl rfl rfl rfl rfl rfl rfl rfl ?_
  refine xb_run zbs 1 rfl rfl ?_
  obtain ⟨r1, hf2, h⟩ := bnd h
  refine xb_call (ZB := zbs) (P := noP) ⟨[], [(64, 64)], [], 5902958103587056517121, 1⟩ rfl rfl rfl rfl rfl rfl rfl rfl rfl rfl (f50_ok a0 _ hf2) rfl rfl rfl (fun v obr hq => ?_) (fun v obr hq => ?_)
  · obtain ⟨hv, rfl⟩ := hq
    cases hv
    refine xb_re (v' := .int .i64 r1) (lo' := []) (ob' := [(64, [.int .i64 a0.k.Term, .int .i64 a0.k.Vote, .int .i64 a0.k.Snap.Index, .int .i64 a0.k.Snap.Term, .ls (List.map ci a0.k.Snap.Config.Voters) 1 0 4722366482869645213696, .ls (List.map ci a0.k.Snap.Config.Learners) 1 0 4722366482869645213696, .str a0.k.Snap.Data, .ls (List.map Entry.row a0.k.Entries) 6 71 4722366482869645213696, .int .i64 a0.r_.Kind, .int .i64 a0.r_.Term, .int .i64 a0.r_.Vote, .int .i64 a0.r_.Entry.Index, .int .i64 a0.r_.Entry.Term, .int .i64 a0.r_.Entry.Kind, .ls (List.map ci a0.r_.Entry.Config.Voters) 1 0 1, .ls (List.map ci a0.r_.Entry.Config.Learners) 1 0 1, .str a0.r_.Entry.Data, .int .i64 a0.r_.Index, .int .i64 a0.r_.Snap.Index, .int .i64 a0.r_.Snap.Term, .ls (List.map ci a0.r_.Snap.Config.Voters) 1 0 1, .ls (List.map ci a0.r_.Snap.Config.Learners) 1 0 1, .str a0.r_.Snap.Data])]) rfl rfl rfl ?_
    refine xb_run zbs 2 rfl rfl ?_
    obtain ⟨r3, hf4, h⟩ := bnd h
    cases r3 with
    | ret r5 =>
      replace h := prR h
      refine xb_call (ZB := zbs) (P := noP) ⟨[], [], [], 0, 1⟩ rfl rfl rfl rfl rfl rfl rfl rfl rfl rfl (f33_ok (a0.r_.Entry.Index == (fwrap .i64 (r1 + 1))) 140 _ hf4) rfl rfl rfl (fun v obr hq => ?_) (fun v obr hq => ?_)
      · obtain ⟨hv, rfl⟩ := hq
        cases hv
        refine xb_re (v' := .tup []) (lo' := []) (ob' := [(64, [.int .i64 a0.k.Term, .int .i64 a0.k.Vote, .int .i64 a0.k.Snap.Index, .int .i64 a0.k.Snap.Term, .ls (List.map ci a0.k.Snap.Config.Voters) 1 0 4722366482869645213696, .ls (List.map ci a0.k.Snap.Config.Learners) 1 0 4722366482869645213696, .str a0.k.Snap.Data, .ls (List.map Entry.row a0.k.Entries) 6 71 4722366482869645213696, .int .i64 a0.r_.Kind, .int .i64 a0.r_.Term, .int .i64 a0.r_.Vote, .int .i64 a0.r_.Entry.Index, .int .i64 a0.r_.Entry.Term, .int .i64 a0.r_.Entry.Kind, .ls (List.map ci a0.r_.Entry.Config.Voters) 1 0 1, .ls (List.map ci a0.r_.Entry.Config.Learners) 1 0 1, .str a0.r_.Entry.Data, .int .i64 a0.r_.Index, .int .i64 a0.r_.Snap.Index, .int .i64 a0.r_.Snap.Term, .ls (List.map ci a0.r_.Snap.Config.Voters) 1 0 1, .ls (List.map ci a0.r_.Snap.Config.Learners) 1 0 1, .str a0.r_.Snap.Data])]) rfl rfl rfl ?_
        refine xb_end ?_
        refine y_nf ?_
        refine y_seq ?_
        refine y_region rfl rfl ?_
        refine xb_run zbs 5 rfl rfl ?_
        refine xb_pure rfl (pLenB rfl rfl rfl rfl rfl) rfl rfl rfl rfl ?_
        refine xb_run zbs 1 rfl rfl ?_
        obtain ⟨r7, hf8, h⟩ := bnd h
        cases r7 with
        | ret r9 =>
          replace h := prR h
          refine xb_call (ZB := zbs) (P := noP) ⟨[], [], [], 0, 1⟩ rfl rfl rfl rfl rfl rfl rfl rfl rfl rfl (f33_ok (decide ((len a0.k.Entries) < 10000)) 2 _ hf8) rfl rfl rfl (fun v obr hq => ?_) (fun v obr hq => ?_)
          · obtain ⟨hv, rfl⟩ := hq
            cases hv
            refine xb_re (v' := .tup []) (lo' := []) (ob' := [(64, [.int .i64 a0.k.Term, .int .i64 a0.k.Vote, .int .i64 a0.k.Snap.Index, .int .i64 a0.k.Snap.Term, .ls (List.map ci a0.k.Snap.Config.Voters) 1 0 4722366482869645213696, .ls (List.map ci a0.k.Snap.Config.Learners) 1 0 4722366482869645213696, .str a0.k.Snap.Data, .ls (List.map Entry.row a0.k.Entries) 6 71 4722366482869645213696, .int .i64 a0.r_.Kind, .int .i64 a0.r_.Term, .int .i64 a0.r_.Vote, .int .i64 a0.r_.Entry.Index, .int .i64 a0.r_.Entry.Term, .int .i64 a0.r_.Entry.Kind, .ls (List.map ci a0.r_.Entry.Config.Voters) 1 0 1, .ls (List.map ci a0.r_.Entry.Config.Learners) 1 0 1, .str a0.r_.Entry.Data, .int .i64 a0.r_.Index, .int .i64 a0.r_.Snap.Index, .int .i64 a0.r_.Snap.Term, .ls (List.map ci a0.r_.Snap.Config.Voters) 1 0 1, .ls (List.map ci a0.r_.Snap.Config.Learners) 1 0 1, .str a0.r_.Snap.Data])]) rfl rfl rfl ?_
            refine xb_end ?_
            refine y_nf ?_
            refine y_region rfl rfl ?_
            refine xb_run zbs 5 rfl rfl ?_
            refine xb_look' (i := 5) (ZB := zbs) rfl rfl rfl rfl rfl rfl rfl rfl rfl ?_
            refine xb_run zbs 5 rfl rfl ?_
            obtain ⟨r11, hf12, h⟩ := bnd h
            refine xb_call0 (ZB := zbs) 1 (.agg (Entry.cells 2 r11)) rfl rfl rfl rfl rfl rfl rfl (f40_ok a0.r_.Entry _ hf12) rfl rfl rfl rfl ?_
            refine xb_slice (ZB := zbs) (es := List.map Entry.row [r11]) 2 2 rfl rfl rfl rfl rfl rfl rfl rfl rfl rfl rfl rfl rfl rfl rfl rfl rfl ?_
            obtain ⟨x13, ha14, h⟩ := bnd h
            refine xb_app (ZB := zbs) 70 4722366482869645213698 rfl rfl rfl rfl rfl rfl rfl rfl rfl ha14 rfl rfl rfl rfl (.inr rfl) rfl rfl rfl ?_
            refine xb_run zbs 3 rfl rfl ?_
            refine xb_storeO (ZB := zbs) (c' := [.int .i64 a0.k.Term, .int .i64 a0.k.Vote, .int .i64 a0.k.Snap.Index, .int .i64 a0.k.Snap.Term, .ls (List.map ci a0.k.Snap.Config.Voters) 1 0 4722366482869645213696, .ls (List.map ci a0.k.Snap.Config.Learners) 1 0 4722366482869645213696, .str a0.k.Snap.Data, .ls (List.map Entry.row x13) 6 71 4722366482869645213698, .int .i64 a0.r_.Kind, .int .i64 a0.r_.Term, .int .i64 a0.r_.Vote, .int .i64 a0.r_.Entry.Index, .int .i64 a0.r_.Entry.Term, .int .i64 a0.r_.Entry.Kind, .ls (List.map ci a0.r_.Entry.Config.Voters) 1 0 1, .ls (List.map ci a0.r_.Entry.Config.Learners) 1 0 1, .str a0.r_.Entry.Data, .int .i64 a0.r_.Index, .int .i64 a0.r_.Snap.Index, .int .i64 a0.r_.Snap.Term, .ls (List.map ci a0.r_.Snap.Config.Voters) 1 0 1, .ls (List.map ci a0.r_.Snap.Config.Learners) 1 0 1, .str a0.r_.Snap.Data]) rfl rfl rfl rfl rfl rfl rfl rfl rfl (.inr rfl) rfl ?_
            refine xb_end ?_
            cases h
            exact ends_retB (obr := [(64, [.int .i64 a0.k.Term, .int .i64 a0.k.Vote, .int .i64 a0.k.Snap.Index, .int .i64 a0.k.Snap.Term, .ls (List.map ci a0.k.Snap.Config.Voters) 1 0 4722366482869645213696, .ls (List.map ci a0.k.Snap.Config.Learners) 1 0 4722366482869645213696, .str a0.k.Snap.Data, .ls (List.map Entry.row x13) 6 71 4722366482869645213698, .int .i64 a0.r_.Kind, .int .i64 a0.r_.Term, .int .i64 a0.r_.Vote, .int .i64 a0.r_.Entry.Index, .int .i64 a0.r_.Entry.Term, .int .i64 a0.r_.Entry.Kind, .ls (List.map ci a0.r_.Entry.Config.Voters) 1 0 1, .ls (List.map ci a0.r_.Entry.Config.Learners) 1 0 1, .str a0.r_.Entry.Data, .int .i64 a0.r_.Index, .int .i64 a0.r_.Snap.Index, .int .i64 a0.r_.Snap.Term, .ls (List.map ci a0.r_.Snap.Config.Voters) 1 0 1, .ls (List.map ci a0.r_.Snap.Config.Learners) 1 0 1, .str a0.r_.Snap.Data])]) 0 rfl rfl (Has.cons rfl Has.nil) ⟨rfl, rfl⟩
          · obtain ⟨hv, _⟩ := hq
            cases hv
        | pan v10 =>
          replace h := prP h
          refine xb_call (ZB := zbs) (P := noP) ⟨[], [], [], 0, 1⟩ rfl rfl rfl rfl rfl rfl rfl rfl rfl rfl (f33_ok (decide ((len a0.k.Entries) < 10000)) 2 _ hf8) rfl rfl rfl (fun v obr hq => ?_) (fun v obr hq => ?_)
          · obtain ⟨hv, _⟩ := hq
            cases hv
          · obtain ⟨hv, rfl⟩ := hq
            cases hv
            cases h
            exact ends_panB 0 Has.nil ⟨rfl, rfl⟩
      · obtain ⟨hv, _⟩ := hq
        cases hv
    | pan v6 =>
      replace h := prP h
      refine xb_call (ZB := zbs) (P := noP) ⟨[], [], [], 0, 1⟩ rfl rfl rfl rfl rfl rfl rfl rfl rfl rfl (f33_ok (a0.r_.Entry.Index == (fwrap .i64 (r1 + 1))) 140 _ hf4) rfl rfl rfl (fun v obr hq => ?_) (fun v obr hq => ?_)
      · obtain ⟨hv, _⟩ := hq
        cases hv
      · obtain ⟨hv, rfl⟩ := hq
        cases hv
        cases h
        exact ends_panB 0 Has.nil ⟨rfl, rfl⟩
  · obtain ⟨hv, _⟩ := hq
    cases hv

def P38 : Pr (Fold) → RB → LO → Prop
  | .ret y, r, ob => r = .ret (.tup []) ∧ ob = [(64, [.int .i64 y.k.Term, .int .i64 y.k.Vote, .int .i64 y.k.Snap.Index, .int .i64 y.k.Snap.Term, .ls (List.map ci y.k.Snap.Config.Voters) 1 0 2, .ls (List.map ci y.k.Snap.Config.Learners) 1 0 2, .str y.k.Snap.Data, .ls (List.map Entry.row y.k.Entries) 6 71 4722366482869645213696, .int .i64 y.r_.Kind, .int .i64 y.r_.Term, .int .i64 y.r_.Vote, .int .i64 y.r_.Entry.Index, .int .i64 y.r_.Entry.Term, .int .i64 y.r_.Entry.Kind, .ls (List.map ci y.r_.Entry.Config.Voters) 1 0 1, .ls (List.map ci y.r_.Entry.Config.Learners) 1 0 1, .str y.r_.Entry.Data, .int .i64 y.r_.Index, .int .i64 y.r_.Snap.Index, .int .i64 y.r_.Snap.Term, .ls (List.map ci y.r_.Snap.Config.Voters) 1 0 1, .ls (List.map ci y.r_.Snap.Config.Learners) 1 0 1, .str y.r_.Snap.Data])]
  | .pan e, r, ob => r = .pan (.iface 77 (.agg [.int .i64 e])) ∧ ob = []
/-- (*folkmoot/stable.fold).snap -/
def F38 (a0 : Fold) : Option (Pr (Fold)) :=
  (F33 (decide (a0.r_.Snap.Index > a0.k.Snap.Index)) 140).bind fun r1 => prE r1 (fun r3 => jn (fun (v5 : List Entry) => (F39 a0.r_.Snap).bind fun r14 => some (.ret (⟨(⟨a0.k.Term, a0.k.Vote, r14, v5⟩ : Kept), a0.r_⟩ : Fold))) fun J6 => jn (fun (v7 : Bool) => bif v7 then ((sli a0.k.Entries (fwrap .i64 ((fwrap .i64 ((fwrap .i64 (a0.r_.Snap.Index - a0.k.Snap.Index)) - 1)) + 1)) (len a0.k.Entries)).bind fun x12 => J6 x12) else (J6 [])) fun J8 => bif (decide ((fwrap .i64 ((fwrap .i64 (a0.r_.Snap.Index - a0.k.Snap.Index)) - 1)) < (len a0.k.Entries))) then ((idx a0.k.Entries (fwrap .i64 ((fwrap .i64 (a0.r_.Snap.Index - a0.k.Snap.Index)) - 1))).bind fun x10 => J8 (x10.Term == a0.r_.Snap.Term)) else (J8 false)) (fun v4 => some (.pan v4))
theorem f38_ok (a0 : Fold) (y : Pr (Fold)) (h : F38 a0 = some y) : CallB (evalL tis funs hints) (fun t => Nat.beq t 1064) 38 [.ptr 64 0] [(64, [.int .i64 a0.k.Term, .int .i64 a0.k.Vote, .int .i64 a0.k.Snap.Index, .int .i64 a0.k.Snap.Term, .ls (List.map ci a0.k.Snap.Config.Voters) 1 0 4722366482869645213696, .ls (List.map ci a0.k.Snap.Config.Learners) 1 0 4722366482869645213696, .str a0.k.Snap.Data, .ls (List.map Entry.row a0.k.Entries) 6 71 4722366482869645213696, .int .i64 a0.r_.Kind, .int .i64 a0.r_.Term, .int .i64 a0.r_.Vote, .int .i64 a0.r_.Entry.Index, .int .i64 a0.r_.Entry.Term, .int .i64 a0.r_.Entry.Kind, .ls (List.map ci a0.r_.Entry.Config.Voters) 1 0 1, .ls (List.map ci a0.r_.Entry.Config.Learners) 1 0 1, .str a0.r_.Entry.Data, .int .i64 a0.r_.Index, .int .i64 a0.r_.Snap.Index, .int .i64 a0.r_.Snap.Term, .ls (List.map ci a0.r_.Snap.Config.Voters) 1 0 1, .ls (List.map ci a0.r_.Snap.Config.Learners) 1 0 1, .str a0.r_.Snap.Data])] (P38 y) := by
  refine ansB_of rfl rfl rfl rfl fun om pi hp => ?_
  unfold F38 at h
  refine y_seq ?_
  refine y_region rfl rfl ?_
  refine xb_run zbs 13 rfl rfl ?_
  obtain ⟨r1, hf2, h⟩ := bnd h
  cases r1 with
  | ret r3 =>
    replace h := prR h
    refine xb_call (ZB := zbs) (P := noP) ⟨[], [], [], 0, 1⟩ rfl rfl rfl rfl rfl rfl rfl rfl rfl rfl (f33_ok (decide (a0.r_.Snap.Index > a0.k.Snap.Index)) 140 _ hf2) rfl rfl rfl (fun v obr hq => ?_) (fun v obr hq => ?_)
    · obtain ⟨hv, rfl⟩ := hq
      cases hv
      refine xb_re (v' := .tup []) (lo' := []) (ob' := [(64, [.int .i64 a0.k.Term, .int .i64 a0.k.Vote, .int .i64 a0.k.Snap.Index, .int .i64 a0.k.Snap.Term, .ls (List.map ci a0.k.Snap.Config.Voters) 1 0 4722366482869645213696, .ls (List.map ci a0.k.Snap.Config.Learners) 1 0 4722366482869645213696, .str a0.k.Snap.Data, .ls (List.map Entry.row a0.k.Entries) 6 71 4722366482869645213696, .int .i64 a0.r_.Kind, .int .i64 a0.r_.Term, .int .i64 a0.r_.Vote, .int .i64 a0.r_.Entry.Index, .int .i64 a0.r_.Entry.Term, .int .i64 a0.r_.Entry.Kind, .ls (List.map ci a0.r_.Entry.Config.Voters) 1 0 1, .ls (List.map ci a0.r_.Entry.Config.Learners) 1 0 1, .str a0.r_.Entry.Data, .int .i64 a0.r_.Index, .int .i64 a0.r_.Snap.Index, .int .i64 a0.r_.Snap.Term, .ls (List.map ci a0.r_.Snap.Config.Voters) 1 0 1, .ls (List.map ci a0.r_.Snap.Config.Learners) 1 0 1, .str a0.r_.Snap.Data])]) rfl rfl rfl ?_
      refine xb_end ?_
      refine y_nf ?_
      refine y_seq ?_
      refine y_region rfl rfl ?_
      refine xb_run zbs 15 rfl rfl ?_
      refine xb_end ?_
      refine y_nf ?_
      obtain ⟨J6, hJ6, h⟩ := jnE h
      refine y_join1 (df' := []) (fun (v5 : List Entry) => [(0, .v (.ptr 64 0))]) (fun (v5 : List Entry) => []) (fun (v5 : List Entry) => [(64, [.int .i64 a0.k.Term, .int .i64 a0.k.Vote, .int .i64 a0.k.Snap.Index, .int .i64 a0.k.Snap.Term, .ls (List.map ci a0.k.Snap.Config.Voters) 1 0 4722366482869645213696, .ls (List.map ci a0.k.Snap.Config.Learners) 1 0 4722366482869645213696, .str a0.k.Snap.Data, .ls (List.map Entry.row v5) 6 71 4722366482869645213696, .int .i64 a0.r_.Kind, .int .i64 a0.r_.Term, .int .i64 a0.r_.Vote, .int .i64 a0.r_.Entry.Index, .int .i64 a0.r_.Entry.Term, .int .i64 a0.r_.Entry.Kind, .ls (List.map ci a0.r_.Entry.Config.Voters) 1 0 1, .ls (List.map ci a0.r_.Entry.Config.Learners) 1 0 1, .str a0.r_.Entry.Data, .int .i64 a0.r_.Index, .int .i64 a0.r_.Snap.Index, .int .i64 a0.r_.Snap.Term, .ls (List.map ci a0.r_.Snap.Config.Voters) 1 0 1, .ls (List.map ci a0.r_.Snap.Config.Learners) 1 0 1, .str a0.r_.Snap.Data])]) (fun (v5 : List Entry) => J6 v5 = some y) ?_ ?_
      · obtain ⟨J8, hJ8, h⟩ := jnE h
        refine y_join1 (df' := []) (fun (v7 : Bool) => [(0, .v (.ptr 64 0)), (2, .v (.int .i64 (fwrap .i64 ((fwrap .i64 (a0.r_.Snap.Index - a0.k.Snap.Index)) - 1)))), (56, .v (.bool v7))]) (fun (v7 : Bool) => []) (fun (v7 : Bool) => [(64, [.int .i64 a0.k.Term, .int .i64 a0.k.Vote, .int .i64 a0.k.Snap.Index, .int .i64 a0.k.Snap.Term, .ls (List.map ci a0.k.Snap.Config.Voters) 1 0 4722366482869645213696, .ls (List.map ci a0.k.Snap.Config.Learners) 1 0 4722366482869645213696, .str a0.k.Snap.Data, .ls (List.map Entry.row a0.k.Entries) 6 71 4722366482869645213696, .int .i64 a0.r_.Kind, .int .i64 a0.r_.Term, .int .i64 a0.r_.Vote, .int .i64 a0.r_.Entry.Index, .int .i64 a0.r_.Entry.Term, .int .i64 a0.r_.Entry.Kind, .ls (List.map ci a0.r_.Entry.Config.Voters) 1 0 1, .ls (List.map ci a0.r_.Entry.Config.Learners) 1 0 1, .str a0.r_.Entry.Data, .int .i64 a0.r_.Index, .int .i64 a0.r_.Snap.Index, .int .i64 a0.r_.Snap.Term, .ls (List.map ci a0.r_.Snap.Config.Voters) 1 0 1, .ls (List.map ci a0.r_.Snap.Config.Learners) 1 0 1, .str a0.r_.Snap.Data])]) (fun (v7 : Bool) => J8 v7 = some y) ?_ ?_
        · refine y_region rfl rfl ?_
          refine xb_run zbs 6 rfl rfl ?_
          refine xb_pure rfl (pLenB rfl rfl rfl rfl rfl) rfl rfl rfl rfl ?_
          refine xb_run zbs 2 rfl rfl ?_
          cases hg9 : (decide ((fwrap .i64 ((fwrap .i64 (a0.r_.Snap.Index - a0.k.Snap.Index)) - 1)) < (len a0.k.Entries))) with
          | false =>
            replace h := condF h hg9
            refine xb_run zbs 17 rfl rfl ?_
            refine xb_end ?_
            exact ⟨false, SubW.cons rfl .refl (SubW.cons rfl .refl (SubW.cons rfl .refl SubW.nil)), SubC'.nil, SubC'.cons rfl .refl SubC'.nil, rfl, h⟩
          | true =>
            replace h := condT h hg9
            refine xb_run zbs 6 rfl rfl ?_
            obtain ⟨x10, hx11, h⟩ := bnd h
            refine xb_pure rfl (pIdxB rfl rfl rfl rfl hx11) rfl rfl rfl rfl ?_
            refine xb_run zbs 10 rfl rfl ?_
            refine xb_end ?_
            exact ⟨(x10.Term == a0.r_.Snap.Term), SubW.cons rfl .refl (SubW.cons rfl .refl (SubW.cons rfl .refl SubW.nil)), SubC'.nil, SubC'.cons rfl .refl SubC'.nil, rfl, h⟩
        · intro v7 h
          subst hJ8
          refine y_cond rfl (fun hc => ?_) (fun hc => ?_)
          · replace h := condT h hc
            refine y_region rfl rfl ?_
            refine xb_run zbs 8 rfl rfl ?_
            obtain ⟨x12, hx13, h⟩ := bnd h
            refine xb_pure rfl (pSliceB rfl rfl rfl rfl rfl (.inr ⟨_, rfl⟩) (.inl ⟨rfl, rfl⟩) hx13) rfl rfl rfl rfl ?_
            refine xb_run zbs 3 rfl rfl ?_
            refine xb_storeO (ZB := zbs) (c' := [.int .i64 a0.k.Term, .int .i64 a0.k.Vote, .int .i64 a0.k.Snap.Index, .int .i64 a0.k.Snap.Term, .ls (List.map ci a0.k.Snap.Config.Voters) 1 0 4722366482869645213696, .ls (List.map ci a0.k.Snap.Config.Learners) 1 0 4722366482869645213696, .str a0.k.Snap.Data, .ls (List.map Entry.row x12) 6 71 4722366482869645213696, .int .i64 a0.r_.Kind, .int .i64 a0.r_.Term, .int .i64 a0.r_.Vote, .int .i64 a0.r_.Entry.Index, .int .i64 a0.r_.Entry.Term, .int .i64 a0.r_.Entry.Kind, .ls (List.map ci a0.r_.Entry.Config.Voters) 1 0 1, .ls (List.map ci a0.r_.Entry.Config.Learners) 1 0 1, .str a0.r_.Entry.Data, .int .i64 a0.r_.Index, .int .i64 a0.r_.Snap.Index, .int .i64 a0.r_.Snap.Term, .ls (List.map ci a0.r_.Snap.Config.Voters) 1 0 1, .ls (List.map ci a0.r_.Snap.Config.Learners) 1 0 1, .str a0.r_.Snap.Data]) rfl rfl rfl rfl rfl rfl rfl rfl rfl (.inr rfl) rfl ?_
            refine xb_end ?_
            exact ⟨x12, SubW.cons rfl .refl SubW.nil, SubC'.nil, SubC'.cons rfl .refl SubC'.nil, rfl, h⟩
          · replace h := condF h hc
            refine y_region rfl rfl ?_
            refine xb_run zbs 4 rfl rfl ?_
            refine xb_storeO (ZB := zbs) (c' := [.int .i64 a0.k.Term, .int .i64 a0.k.Vote, .int .i64 a0.k.Snap.Index, .int .i64 a0.k.Snap.Term, .ls (List.map ci a0.k.Snap.Config.Voters) 1 0 4722366482869645213696, .ls (List.map ci a0.k.Snap.Config.Learners) 1 0 4722366482869645213696, .str a0.k.Snap.Data, .ls (List.map Entry.row []) 6 0 0, .int .i64 a0.r_.Kind, .int .i64 a0.r_.Term, .int .i64 a0.r_.Vote, .int .i64 a0.r_.Entry.Index, .int .i64 a0.r_.Entry.Term, .int .i64 a0.r_.Entry.Kind, .ls (List.map ci a0.r_.Entry.Config.Voters) 1 0 1, .ls (List.map ci a0.r_.Entry.Config.Learners) 1 0 1, .str a0.r_.Entry.Data, .int .i64 a0.r_.Index, .int .i64 a0.r_.Snap.Index, .int .i64 a0.r_.Snap.Term, .ls (List.map ci a0.r_.Snap.Config.Voters) 1 0 1, .ls (List.map ci a0.r_.Snap.Config.Learners) 1 0 1, .str a0.r_.Snap.Data]) rfl rfl rfl rfl rfl rfl rfl rfl rfl (.inr rfl) rfl ?_
            refine xb_end ?_
            exact ⟨[], SubW.cons rfl .refl SubW.nil, SubC'.nil, SubC'.cons rfl (.cons .refl (.cons .refl (.cons .refl (.cons .refl (.cons .refl (.cons .refl (.cons .refl (.cons .nil (.cons .refl (.cons .refl (.cons .refl (.cons .refl (.cons .refl (.cons .refl (.cons .refl (.cons .refl (.cons .refl (.cons .refl (.cons .refl (.cons .refl (.cons .refl (.cons .refl (.cons .refl .nil))))))))))))))))))))))) SubC'.nil, rfl, h⟩
      · intro v5 h
        subst hJ6
        refine y_region rfl rfl ?_
        refine xb_run zbs 6 rfl rfl ?_
        obtain ⟨r14, hf15, h⟩ := bnd h
        refine xb_call0 (ZB := zbs) 1 (.agg (Snapshot.cells 2 r14)) rfl rfl rfl rfl rfl rfl rfl (f39_ok a0.r_.Snap _ hf15) rfl rfl rfl rfl ?_
        refine xb_run zbs 3 rfl rfl ?_
        refine xb_storeO (ZB := zbs) (c' := [.int .i64 a0.k.Term, .int .i64 a0.k.Vote, .int .i64 r14.Index, .int .i64 r14.Term, .ls (List.map ci r14.Config.Voters) 1 0 2, .ls (List.map ci r14.Config.Learners) 1 0 2, .str r14.Data, .ls (List.map Entry.row v5) 6 71 4722366482869645213696, .int .i64 a0.r_.Kind, .int .i64 a0.r_.Term, .int .i64 a0.r_.Vote, .int .i64 a0.r_.Entry.Index, .int .i64 a0.r_.Entry.Term, .int .i64 a0.r_.Entry.Kind, .ls (List.map ci a0.r_.Entry.Config.Voters) 1 0 1, .ls (List.map ci a0.r_.Entry.Config.Learners) 1 0 1, .str a0.r_.Entry.Data, .int .i64 a0.r_.Index, .int .i64 a0.r_.Snap.Index, .int .i64 a0.r_.Snap.Term, .ls (List.map ci a0.r_.Snap.Config.Voters) 1 0 1, .ls (List.map ci a0.r_.Snap.Config.Learners) 1 0 1, .str a0.r_.Snap.Data]) rfl rfl rfl rfl rfl rfl rfl rfl rfl (.inr rfl) rfl ?_
        refine xb_end ?_
        cases h
        exact ends_retB (obr := [(64, [.int .i64 a0.k.Term, .int .i64 a0.k.Vote, .int .i64 r14.Index, .int .i64 r14.Term, .ls (List.map ci r14.Config.Voters) 1 0 2, .ls (List.map ci r14.Config.Learners) 1 0 2, .str r14.Data, .ls (List.map Entry.row v5) 6 71 4722366482869645213696, .int .i64 a0.r_.Kind, .int .i64 a0.r_.Term, .int .i64 a0.r_.Vote, .int .i64 a0.r_.Entry.Index, .int .i64 a0.r_.Entry.Term, .int .i64 a0.r_.Entry.Kind, .ls (List.map ci a0.r_.Entry.Config.Voters) 1 0 1, .ls (List.map ci a0.r_.Entry.Config.Learners) 1 0 1, .str a0.r_.Entry.Data, .int .i64 a0.r_.Index, .int .i64 a0.r_.Snap.Index, .int .i64 a0.r_.Snap.Term, .ls (List.map ci a0.r_.Snap.Config.Voters) 1 0 1, .ls (List.map ci a0.r_.Snap.Config.Learners) 1 0 1, .str a0.r_.Snap.Data])]) 0 rfl rfl (Has.cons rfl Has.nil) ⟨rfl, rfl⟩
    · obtain ⟨hv, _⟩ := hq
      cases hv
  | pan v4 =>
    replace h := prP h
    refine xb_call (ZB := zbs) (P := noP) ⟨[], [], [], 0, 1⟩ rfl rfl rfl rfl rfl rfl rfl rfl rfl rfl (f33_ok (decide (a0.r_.Snap.Index > a0.k.Snap.Index)) 140 _ hf2) rfl rfl rfl (fun v obr hq => ?_) (fun v obr hq => ?_)
    · obtain ⟨hv, _⟩ := hq
      cases hv
    · obtain ⟨hv, rfl⟩ := hq
      cases hv
      cases h
      exact ends_panB 0 Has.nil ⟨rfl, rfl⟩

/-- folkmoot/stable.right$1 -/
def F29 (a0 : Record) : Option (Bool) :=
  (F30 a0).bind fun r1 => some (r1 != 0)
theorem f29_ok (a0 : Record) (y : Bool) (h : F29 a0 = some y) : CallB (evalL tis funs hints) noP 29 [.agg (Record.cells 1 a0)] [] (fun r ob => r = .ret (.bool y) ∧ ob = []) := by
  refine ansB_of rfl rfl rfl rfl fun om pi hp => ?_
  unfold F29 at h
  refine y_seq ?_
  refine y_region rfl rfl ?_
  refine xb_boxL (ZB := zbs) rfl rfl rfl rfl rfl rfl rfl rfl rfl rfl rfl ?_
  refine xb_run zbs 1 rfl rfl ?_
  refine xb_end ?_
  refine y_nf ?_
  refine y_seq ?_
  refine y_region rfl rfl ?_
  refine xb_run zbs 1 rfl rfl ?_
  obtain ⟨r1, hf2, h⟩ := bnd h
  refine xb_call0 (ZB := zbs) 1 (.tup [.any, .int .i64 r1]) rfl rfl rfl rfl rfl rfl rfl (f30_ok a0 _ hf2) rfl rfl rfl rfl ?_
  refine xb_run zbs 5 rfl rfl ?_
  refine xb_end ?_
  refine y_nf ?_
  refine y_seq ?_
  refine y_region rfl rfl ?_
  refine xb_run zbs 3 rfl rfl ?_
  refine xb_end ?_
  refine y_nf ?_
  cases h
  refine y_ret ?_
  exact ends_retB 0 rfl rfl Has.nil ⟨rfl, rfl⟩

/-- folkmoot/stable.records -/
def F28 (a0 : Kept) : Option (List Record) :=
  jn (fun (v1 : List Record) => jn (fun (v7 : List Record) => some v7) fun J8 => lp2 (fun (v11 : List Record) (v12 : Int) => bif (decide (v12 < (len a0.Entries))) then ((idx a0.Entries v12).bind fun x14 => (app v11 ([(⟨2, 0, 0, x14, 0, (⟨0, 0, (⟨[], []⟩ : Config), []⟩ : Snapshot)⟩ : Record)])).bind fun x16 => some (.inl (x16, (fwrap .i64 (v12 + 1))))) else (some (.inr (.inl v11)))) v1 0 (fun (q : (List Record)) => J8 q)) fun J2 => (F26 a0.Snap).bind fun r3 => bif (!r3) then ((app ([(⟨1, a0.Term, a0.Vote, (⟨0, 0, 0, (⟨[], []⟩ : Config), []⟩ : Entry), 0, (⟨0, 0, (⟨[], []⟩ : Config), []⟩ : Snapshot)⟩ : Record)]) ([(⟨4, 0, 0, (⟨0, 0, 0, (⟨[], []⟩ : Config), []⟩ : Entry), 0, a0.Snap⟩ : Record)])).bind fun x5 => J2 x5) else (J2 ([(⟨1, a0.Term, a0.Vote, (⟨0, 0, 0, (⟨[], []⟩ : Config), []⟩ : Entry), 0, (⟨0, 0, (⟨[], []⟩ : Config), []⟩ : Snapshot)⟩ : Record)]))
theorem f28_ok (a0 : Kept) (y : List Record) (h : F28 a0 = some y) : CallB (evalL tis funs hints) noP 28 [.agg (Kept.cells 1 a0)] [] (fun r ob => r = .ret (.ls (List.map Record.row y) 15 0 3) ∧ ob = []) := by
  refine ansB_of rfl rfl rfl rfl fun om pi hp => ?_
  unfold F28 at h
  refine y_seq ?_
  refine y_region rfl rfl ?_
  refine xb_boxL (ZB := zbs) rfl rfl rfl rfl rfl rfl rfl rfl rfl rfl rfl ?_
  refine xb_run zbs 1 rfl rfl ?_
  refine xb_end ?_
  refine y_nf ?_
  refine y_seq ?_
  refine y_region rfl rfl ?_
  refine xb_run zbs 5 rfl rfl ?_
  refine xb_slice (ZB := zbs) (es := List.map Record.row [(⟨1, a0.Term, a0.Vote, (⟨0, 0, 0, (⟨[], []⟩ : Config), []⟩ : Entry), 0, (⟨0, 0, (⟨[], []⟩ : Config), []⟩ : Snapshot)⟩ : Record)]) 2 0 rfl rfl rfl rfl rfl rfl rfl rfl rfl rfl rfl rfl rfl rfl rfl rfl rfl ?_
  refine xb_run zbs 1 rfl rfl ?_
  refine xb_end ?_
  refine y_nf ?_
  obtain ⟨J2, hJ2, h⟩ := jnE h
  refine y_join1 (df' := []) (fun (v1 : List Record) => [(1, .lr 1 0), (2, .v (.ls (List.map Record.row []) 15 0 0)), (3, .v (.ls (List.map Record.row v1) 15 3 1))]) (fun (v1 : List Record) => [(1, (Kept.cells 1 a0))]) (fun (v1 : List Record) => []) (fun (v1 : List Record) => J2 v1 = some y) ?_ ?_
  · refine y_seq ?_
    refine y_region rfl rfl ?_
    refine xb_run zbs 2 rfl rfl ?_
    obtain ⟨r3, hf4, h⟩ := bnd h
    refine xb_call0 (ZB := zbs) 1 (.bool r3) rfl rfl rfl rfl rfl rfl rfl (f26_ok a0.Snap _ hf4) rfl rfl rfl rfl ?_
    refine xb_run zbs 1 rfl rfl ?_
    refine xb_end ?_
    refine y_nf ?_
    refine y_cond rfl (fun hc => ?_) (fun hc => ?_)
    · replace h := condT h hc
      refine y_region rfl rfl ?_
      refine xb_run zbs 4 rfl rfl ?_
      refine xb_slice (ZB := zbs) (es := List.map Record.row [(⟨4, 0, 0, (⟨0, 0, 0, (⟨[], []⟩ : Config), []⟩ : Entry), 0, a0.Snap⟩ : Record)]) 3 1 rfl rfl rfl rfl rfl rfl rfl rfl rfl rfl rfl rfl rfl rfl rfl rfl rfl ?_
      obtain ⟨x5, ha6, h⟩ := bnd h
      refine xb_app (ZB := zbs) 2 1 rfl rfl rfl rfl rfl rfl rfl rfl rfl ha6 rfl rfl rfl rfl (.inl rfl) rfl rfl rfl ?_
      refine xb_run zbs 1 rfl rfl ?_
      refine xb_end ?_
      exact ⟨x5, SubW.cons rfl .refl (SubW.cons rfl .refl (SubW.cons rfl .refl SubW.nil)), SubC'.cons rfl .refl SubC'.nil, SubC'.nil, rfl, h⟩
    · replace h := condF h hc
      refine y_skip ?_
      exact ⟨[(⟨1, a0.Term, a0.Vote, (⟨0, 0, 0, (⟨[], []⟩ : Config), []⟩ : Entry), 0, (⟨0, 0, (⟨[], []⟩ : Config), []⟩ : Snapshot)⟩ : Record)], SubW.cons rfl .refl (SubW.cons rfl .refl (SubW.cons rfl (.v (.mask rfl)) SubW.nil)), SubC'.cons rfl .refl SubC'.nil, SubC'.nil, rfl, h⟩
  · intro v1 h
    subst hJ2
    obtain ⟨J8, hJ8, h⟩ := jnE h
    refine y_join1 (df' := []) (fun (v7 : List Record) => [(2, .v (.ls (List.map Record.row []) 15 0 0)), (3, .v (.ls (List.map Record.row v7) 15 3 1))]) (fun (v7 : List Record) => []) (fun (v7 : List Record) => []) (fun (v7 : List Record) => J8 v7 = some y) ?_ ?_
    · refine y_seq ?_
      refine y_region rfl rfl ?_
      refine xb_run zbs 2 rfl rfl ?_
      refine xb_pure rfl (pLenB rfl rfl rfl rfl rfl) rfl rfl rfl rfl ?_
      refine xb_run zbs 1 rfl rfl ?_
      refine xb_end ?_
      refine y_nf ?_
      refine y_block ?_
      refine y_lp2 h (fun (v11 : List Record) (v12 : Int) => [(2, .v (.ls (List.map Record.row []) 15 0 0)), (3, .v (.ls (List.map Record.row v11) 15 3 1)), (23, .v (.ls (List.map Entry.row a0.Entries) 6 0 1)), (24, .v (.int .i64 (len a0.Entries))), (25, .v (.int .i64 v12))]) (fun (v11 : List Record) (v12 : Int) => []) (fun (v11 : List Record) (v12 : Int) => []) (SubW.cons rfl .refl (SubW.cons rfl .refl (SubW.cons rfl .refl (SubW.cons rfl .refl (SubW.cons rfl .refl SubW.nil))))) SubC'.nil SubC'.nil ?_
      intro v11 v12 w13 h
      refine y_seq ?_
      refine y_region rfl rfl ?_
      refine xb_run zbs 1 rfl rfl ?_
      refine xb_end ?_
      refine y_nf ?_
      refine y_seq ?_
      refine y_cond rfl (fun hc => ?_) (fun hc => ?_)
      · replace h := condT h hc
        refine y_skip ?_
        refine y_nf ?_
        refine y_seq ?_
        refine y_block ?_
        refine y_seq ?_
        refine y_region rfl rfl ?_
        obtain ⟨x14, hx15, h⟩ := bnd h
        refine xb_pure rfl (pIdxB rfl rfl rfl rfl hx15) rfl rfl rfl rfl ?_
        refine xb_run zbs 1 rfl rfl ?_
        refine xb_allocL zb34 rfl rfl rfl rfl rfl rfl rfl rfl rfl rfl ?_
        refine xb_storeL (ZB := zbs) (c' := (Entry.cells 1 x14)) rfl rfl rfl rfl rfl rfl rfl rfl rfl rfl rfl ?_
        refine xb_end ?_
        refine y_nf ?_
        refine y_region rfl rfl ?_
        refine xb_run zbs 3 rfl rfl ?_
        refine xb_slice (ZB := zbs) (es := List.map Record.row [(⟨2, 0, 0, x14, 0, (⟨0, 0, (⟨[], []⟩ : Config), []⟩ : Snapshot)⟩ : Record)]) 4 1 rfl rfl rfl rfl rfl rfl rfl rfl rfl rfl rfl rfl rfl rfl rfl rfl rfl ?_
        obtain ⟨x16, ha17, h⟩ := bnd h
        refine xb_app (ZB := zbs) 2 1 rfl rfl rfl rfl rfl rfl rfl rfl rfl ha17 rfl rfl rfl rfl (.inl rfl) rfl rfl rfl ?_
        refine xb_run zbs 1 rfl rfl ?_
        refine xb_end ?_
        refine y_nf ?_
        refine y_region rfl rfl ?_
        refine xb_run zbs 2 rfl rfl ?_
        refine xb_end ?_
        cases h
        exact ⟨(x16, (fwrap .i64 (v12 + 1))), rfl, SubW.cons rfl .refl (SubW.cons rfl .refl (SubW.cons rfl .refl (SubW.cons rfl .refl (SubW.cons rfl .refl SubW.nil)))), SubC'.nil, SubC'.nil, rfl⟩
      · replace h := condF h hc
        cases h
        refine y_exit ⟨_, rfl, fun h => ?_⟩
        exact ⟨v11, SubW.cons rfl .refl (SubW.cons rfl .refl SubW.nil), SubC'.nil, SubC'.nil, rfl, h⟩
    · intro v7 h
      subst hJ8
      refine y_seq ?_
      refine y_region rfl rfl ?_
      refine xb_run zbs 2 rfl rfl ?_
      refine xb_end ?_
      refine y_nf ?_
      cases h
      refine y_ret ?_
      exact ends_retB 3 rfl rfl Has.nil ⟨rfl, rfl⟩

/-- slices.IndexFunc[[]folkmoot/api.Record,folkmoot/api.Record] -/
def F46_29 (a0 : List Record) : Option (Int) :=
  jn (some (-1)) fun J1 => lp1 (fun (v3 : Int) => bif (decide (v3 < (len a0))) then ((idx a0 v3).bind fun x5 => (F29 x5).bind fun r7 => bif r7 then (some (.inr (.inr v3))) else (some (.inl (fwrap .i64 (v3 + 1))))) else (some (.inr (.inl ())))) 0 (fun (_ : Unit) => J1)
theorem f46_29_ok (a0 : List Record) (y : Int) (h : F46_29 a0 = some y) : CallB (evalL tis funs hints) noP 46 [.ls (List.map Record.row a0) 15 0 1, .fn 29 []] [] (fun r ob => r = .ret (.int .i64 y) ∧ ob = []) := by
  refine ansB_of rfl rfl rfl rfl fun om pi hp => ?_
  unfold F46_29 at h
  refine y_seq ?_
  refine y_region rfl rfl ?_
  refine xb_run zbs 1 rfl rfl ?_
  refine xb_end ?_
  refine y_nf ?_
  obtain ⟨J1, hJ1, h⟩ := jnE h
  refine y_join0 (df' := []) [(4, .v (.int .i64 0))] [] [] (J1 = some y) ?_ ?_
  · refine y_seq ?_
    refine y_region rfl rfl ?_
    refine xb_run zbs 1 rfl rfl ?_
    refine xb_pure rfl (pLenB rfl rfl rfl rfl rfl) rfl rfl rfl rfl ?_
    refine xb_run zbs 1 rfl rfl ?_
    refine xb_end ?_
    refine y_nf ?_
    refine y_block ?_
    refine y_lp1 h (fun (v3 : Int) => [(0, .v (.ls (List.map Record.row a0) 15 0 1)), (1, .v (.fn 29 [])), (4, .v (.int .i64 0)), (7, .v (.int .i64 (len a0))), (8, .v (.int .i64 v3))]) (fun (v3 : Int) => []) (fun (v3 : Int) => []) (SubW.cons rfl .refl (SubW.cons rfl .refl (SubW.cons rfl .refl (SubW.cons rfl .refl (SubW.cons rfl .refl SubW.nil))))) SubC'.nil SubC'.nil ?_
    intro v3 w4 h
    refine y_seq ?_
    refine y_region rfl rfl ?_
    refine xb_run zbs 1 rfl rfl ?_
    refine xb_end ?_
    refine y_nf ?_
    refine y_seq ?_
    refine y_cond rfl (fun hc => ?_) (fun hc => ?_)
    · replace h := condT h hc
      refine y_skip ?_
      refine y_nf ?_
      refine y_seq ?_
      refine y_block ?_
      refine y_seq ?_
      refine y_region rfl rfl ?_
      refine xb_run zbs 2 rfl rfl ?_
      refine xb_end ?_
      refine y_nf ?_
      refine y_seq ?_
      refine y_region rfl rfl ?_
      refine xb_run zbs 3 rfl rfl ?_
      obtain ⟨x5, hx6, h⟩ := bnd h
      refine xb_pure rfl (pIdxB rfl rfl rfl rfl hx6) rfl rfl rfl rfl ?_
      refine xb_run zbs 1 rfl rfl ?_
      obtain ⟨r7, hf8, h⟩ := bnd h
      refine xb_call0 (ZB := zbs) 1 (.bool r7) rfl rfl rfl rfl rfl rfl rfl (f29_ok x5 _ hf8) rfl rfl rfl rfl ?_
      refine xb_end ?_
      refine y_nf ?_
      refine y_cond rfl (fun hc => ?_) (fun hc => ?_)
      · replace h := condT h hc
        refine y_seq ?_
        refine y_region rfl rfl ?_
        refine xb_run zbs 2 rfl rfl ?_
        refine xb_end ?_
        refine y_nf ?_
        cases h
        refine y_ret ⟨_, rfl, fun h => ?_⟩
        cases h
        exact ends_retB 0 rfl rfl Has.nil ⟨rfl, rfl⟩
      · replace h := condF h hc
        refine y_skip ?_
        refine y_nf ?_
        refine y_region rfl rfl ?_
        refine xb_run zbs 2 rfl rfl ?_
        refine xb_end ?_
        cases h
        exact ⟨(fwrap .i64 (v3 + 1)), rfl, SubW.cons rfl .refl (SubW.cons rfl .refl (SubW.cons rfl .refl (SubW.cons rfl .refl (SubW.cons rfl .refl SubW.nil)))), SubC'.nil, SubC'.nil, rfl⟩
    · replace h := condF h hc
      cases h
      refine y_exit ⟨_, rfl, fun h => ?_⟩
      exact ⟨(), SubW.cons rfl .refl SubW.nil, SubC'.nil, SubC'.nil, rfl, h⟩
  · intro h
    subst hJ1
    refine y_seq ?_
    refine y_region rfl rfl ?_
    refine xb_run zbs 1 rfl rfl ?_
    refine xb_end ?_
    refine y_nf ?_
    cases h
    refine y_ret ?_
    exact ends_retB 0 rfl rfl Has.nil ⟨rfl, rfl⟩

/-- slices.ContainsFunc[[]folkmoot/api.Record,folkmoot/api.Record] -/
def F27_29 (a0 : List Record) : Option (Bool) :=
  (F46_29 a0).bind fun r1 => some (decide (r1 ≥ 0))
theorem f27_29_ok (a0 : List Record) (y : Bool) (h : F27_29 a0 = some y) : CallB (evalL tis funs hints) noP 27 [.ls (List.map Record.row a0) 15 0 1, .fn 29 []] [] (fun r ob => r = .ret (.bool y) ∧ ob = []) := by
  refine ansB_of rfl rfl rfl rfl fun om pi hp => ?_
  unfold F27_29 at h
  refine y_seq ?_
  refine y_region rfl rfl ?_
  refine xb_run zbs 1 rfl rfl ?_
  refine xb_end ?_
  refine y_nf ?_
  refine y_seq ?_
  refine y_region rfl rfl ?_
  refine xb_run zbs 2 rfl rfl ?_
  obtain ⟨r1, hf2, h⟩ := bnd h
  refine xb_call0 (ZB := zbs) 1 (.int .i64 r1) rfl rfl rfl rfl rfl rfl rfl (f46_29_ok a0 _ hf2) rfl rfl rfl rfl ?_
  refine xb_run zbs 2 rfl rfl ?_
  refine xb_end ?_
  refine y_nf ?_
  cases h
  refine y_ret ?_
  exact ends_retB 0 rfl rfl Has.nil ⟨rfl, rfl⟩

/-- folkmoot/stable.right -/
def F14 (a0 : Kept) : Option (Bool) :=
  jn (fun (v1 : Bool) => bif v1 then (some false) else (jn ((F28 a0).bind fun r13 => (F27_29 r13).bind fun r15 => some (!r15)) fun J7 => lp1 (fun (v9 : Int) => bif (decide (v9 < (len a0.Entries))) then ((idx a0.Entries v9).bind fun x11 => bif (x11.Index != (fwrap .i64 ((fwrap .i64 (a0.Snap.Index + 1)) + v9))) then (some (.inr (.inr false))) else (some (.inl (fwrap .i64 (v9 + 1))))) else (some (.inr (.inl ())))) 0 (fun (_ : Unit) => J7))) fun J2 => bif (decide ((len a0.Entries) > 10000)) then (J2 true) else (bif (decide (a0.Snap.Index < 1)) then ((F26 a0.Snap).bind fun r5 => J2 (!r5)) else (J2 false))
theorem f14_ok (a0 : Kept) (y : Bool) (h : F14 a0 = some y) : CallB (evalL tis funs hints) noP 14 [.agg (Kept.cells 1 a0)] [] (fun r ob => r = .ret (.bool y) ∧ ob = []) := by
  refine ansB_of rfl rfl rfl rfl fun om pi hp => ?_
  unfold F14 at h
  refine y_seq ?_
  refine y_region rfl rfl ?_
  refine xb_boxL (ZB := zbs) rfl rfl rfl rfl rfl rfl rfl rfl rfl rfl rfl ?_
  refine xb_run zbs 1 rfl rfl ?_
  refine xb_end ?_
  refine y_nf ?_
  refine y_seq ?_
  obtain ⟨J2, hJ2, h⟩ := jnE h
  refine y_join1 (df' := []) (fun (v1 : Bool) => [(1, .lr 1 0), (2, .v (.bool false)), (20, .v (.bool v1))]) (fun (v1 : Bool) => [(1, (Kept.cells 1 a0))]) (fun (v1 : Bool) => []) (fun (v1 : Bool) => J2 v1 = some y) ?_ ?_
  · refine y_region rfl rfl ?_
    refine xb_run zbs 2 rfl rfl ?_
    refine xb_pure rfl (pLenB rfl rfl rfl rfl rfl) rfl rfl rfl rfl ?_
    refine xb_run zbs 2 rfl rfl ?_
    cases hg3 : (decide ((len a0.Entries) > 10000)) with
    | false =>
      replace h := condF h hg3
      refine xb_run zbs 5 rfl rfl ?_
      cases hg4 : (decide (a0.Snap.Index < 1)) with
      | false =>
        replace h := condF h hg4
        refine xb_run zbs 6 rfl rfl ?_
        refine xb_end ?_
        exact ⟨false, SubW.cons rfl .refl (SubW.cons rfl .refl (SubW.cons rfl .refl SubW.nil)), SubC'.cons rfl .refl SubC'.nil, SubC'.nil, rfl, h⟩
      | true =>
        replace h := condT h hg4
        refine xb_run zbs 2 rfl rfl ?_
        obtain ⟨r5, hf6, h⟩ := bnd h
        refine xb_call0 (ZB := zbs) 1 (.bool r5) rfl rfl rfl rfl rfl rfl rfl (f26_ok a0.Snap _ hf6) rfl rfl rfl rfl ?_
        refine xb_run zbs 3 rfl rfl ?_
        refine xb_end ?_
        exact ⟨(!r5), SubW.cons rfl .refl (SubW.cons rfl .refl (SubW.cons rfl .refl SubW.nil)), SubC'.cons rfl .refl SubC'.nil, SubC'.nil, rfl, h⟩
    | true =>
      replace h := condT h hg3
      refine xb_run zbs 11 rfl rfl ?_
      refine xb_end ?_
      exact ⟨true, SubW.cons rfl .refl (SubW.cons rfl .refl (SubW.cons rfl .refl SubW.nil)), SubC'.cons rfl .refl SubC'.nil, SubC'.nil, rfl, h⟩
  · intro v1 h
    subst hJ2
    refine y_cond rfl (fun hc => ?_) (fun hc => ?_)
    · replace h := condT h hc
      refine y_seq ?_
      refine y_region rfl rfl ?_
      refine xb_run zbs 1 rfl rfl ?_
      refine xb_end ?_
      refine y_nf ?_
      cases h
      refine y_ret ?_
      exact ends_retB 0 rfl rfl Has.nil ⟨rfl, rfl⟩
    · replace h := condF h hc
      refine y_skip ?_
      refine y_nf ?_
      obtain ⟨J7, hJ7, h⟩ := jnE h
      refine y_join0 (df' := []) [(1, .lr 1 0), (2, .v (.bool false))] [(1, (Kept.cells 1 a0))] [] (J7 = some y) ?_ ?_
      · refine y_seq ?_
        refine y_region rfl rfl ?_
        refine xb_run zbs 2 rfl rfl ?_
        refine xb_pure rfl (pLenB rfl rfl rfl rfl rfl) rfl rfl rfl rfl ?_
        refine xb_run zbs 1 rfl rfl ?_
        refine xb_end ?_
        refine y_nf ?_
        refine y_block ?_
        refine y_lp1 h (fun (v9 : Int) => [(1, .lr 1 0), (2, .v (.bool false)), (22, .v (.ls (List.map Entry.row a0.Entries) 6 0 1)), (23, .v (.int .i64 (len a0.Entries))), (24, .v (.int .i64 v9))]) (fun (v9 : Int) => [(1, (Kept.cells 1 a0))]) (fun (v9 : Int) => []) (SubW.cons rfl .refl (SubW.cons rfl .refl (SubW.cons rfl .refl (SubW.cons rfl .refl (SubW.cons rfl .refl SubW.nil))))) (SubC'.cons rfl .refl SubC'.nil) SubC'.nil ?_
        intro v9 w10 h
        refine y_seq ?_
        refine y_region rfl rfl ?_
        refine xb_run zbs 1 rfl rfl ?_
        refine xb_end ?_
        refine y_nf ?_
        refine y_seq ?_
        refine y_cond rfl (fun hc => ?_) (fun hc => ?_)
        · replace h := condT h hc
          refine y_skip ?_
          refine y_nf ?_
          refine y_seq ?_
          refine y_block ?_
          refine y_seq ?_
          refine y_region rfl rfl ?_
          refine xb_run zbs 1 rfl rfl ?_
          obtain ⟨x11, hx12, h⟩ := bnd h
          refine xb_pure rfl (pIdxB rfl rfl rfl rfl hx12) rfl rfl rfl rfl ?_
          refine xb_run zbs 1 rfl rfl ?_
          refine xb_allocL zb34 rfl rfl rfl rfl rfl rfl rfl rfl rfl rfl ?_
          refine xb_run zbs 1 rfl rfl ?_
          refine xb_storeL (ZB := zbs) (c' := (Entry.cells 1 x11)) rfl rfl rfl rfl rfl rfl rfl rfl rfl rfl rfl ?_
          refine xb_end ?_
          refine y_nf ?_
          refine y_seq ?_
          refine y_region rfl rfl ?_
          refine xb_run zbs 9 rfl rfl ?_
          refine xb_end ?_
          refine y_nf ?_
          refine y_cond rfl (fun hc => ?_) (fun hc => ?_)
          · replace h := condT h hc
            refine y_seq ?_
            refine y_region rfl rfl ?_
            refine xb_run zbs 1 rfl rfl ?_
            refine xb_end ?_
            refine y_nf ?_
            cases h
            refine y_ret ⟨_, rfl, fun h => ?_⟩
            cases h
            exact ends_retB 0 rfl rfl Has.nil ⟨rfl, rfl⟩
          · replace h := condF h hc
            refine y_skip ?_
            refine y_nf ?_
            refine y_region rfl rfl ?_
            refine xb_run zbs 2 rfl rfl ?_
            refine xb_end ?_
            cases h
            exact ⟨(fwrap .i64 (v9 + 1)), rfl, SubW.cons rfl .refl (SubW.cons rfl .refl (SubW.cons rfl .refl (SubW.cons rfl .refl (SubW.cons rfl .refl SubW.nil)))), SubC'.cons rfl .refl SubC'.nil, SubC'.nil, rfl⟩
        · replace h := condF h hc
          cases h
          refine y_exit ⟨_, rfl, fun h => ?_⟩
          exact ⟨(), SubW.cons rfl .refl (SubW.cons rfl .refl SubW.nil), SubC'.cons rfl .refl SubC'.nil, SubC'.nil, rfl, h⟩
      · intro h
        subst hJ7
        refine y_seq ?_
        refine y_region rfl rfl ?_
        refine xb_run zbs 1 rfl rfl ?_
        obtain ⟨r13, hf14, h⟩ := bnd h
        refine xb_call0 (ZB := zbs) 1 (.ls (List.map Record.row r13) 15 0 3) rfl rfl rfl rfl rfl rfl rfl (f28_ok a0 _ hf14) rfl rfl rfl rfl ?_
        obtain ⟨r15, hf16, h⟩ := bnd h
        refine xb_call0 (ZB := zbs) 3 (.bool r15) rfl rfl rfl rfl rfl rfl rfl (f27_29_ok r13 _ hf16) rfl rfl rfl rfl ?_
        refine xb_run zbs 2 rfl rfl ?_
        refine xb_end ?_
        refine y_nf ?_
        cases h
        refine y_ret ?_
        exact ends_retB 0 rfl rfl Has.nil ⟨rfl, rfl⟩

/-- folkmoot/folkmootref15.Records -/
def F41 (a0 : Kept) : Option (List Record) :=
  jn (fun (v1 : List Record) => jn (fun (v9 : List Record) => some v9) fun J10 => lp2 (fun (v13 : List Record) (v14 : Int) => bif (decide (v14 < (len a0.Entries))) then ((idx a0.Entries v14).bind fun x16 => (F13 x16).bind fun r18 => (app v13 ([(⟨2, 0, 0, r18, 0, (⟨0, 0, (⟨[], []⟩ : Config), []⟩ : Snapshot)⟩ : Record)])).bind fun x20 => some (.inl (x20, (fwrap .i64 (v14 + 1))))) else (some (.inr (.inl v13)))) v1 0 (fun (q : (List Record)) => J10 q)) fun J2 => (F21 a0.Snap (⟨0, 0, (⟨[], []⟩ : Config), []⟩ : Snapshot)).bind fun r3 => bif (!r3) then ((F12 a0.Snap).bind fun r5 => (app ([(⟨1, a0.Term, a0.Vote, (⟨0, 0, 0, (⟨[], []⟩ : Config), []⟩ : Entry), 0, (⟨0, 0, (⟨[], []⟩ : Config), []⟩ : Snapshot)⟩ : Record)]) ([(⟨4, 0, 0, (⟨0, 0, 0, (⟨[], []⟩ : Config), []⟩ : Entry), 0, r5⟩ : Record)])).bind fun x7 => J2 x7) else (J2 ([(⟨1, a0.Term, a0.Vote, (⟨0, 0, 0, (⟨[], []⟩ : Config), []⟩ : Entry), 0, (⟨0, 0, (⟨[], []⟩ : Config), []⟩ : Snapshot)⟩ : Record)]))
theorem f41_ok (a0 : Kept) (y : List Record) (h : F41 a0 = some y) : CallB (evalL tis funs hints) noP 41 [.agg (Kept.cells 1 a0)] [] (fun r ob => r = .ret (.ls (List.map Record.row y) 15 0 2) ∧ ob = []) := by
  refine ansB_of rfl rfl rfl rfl fun om pi hp => ?_
  unfold F41 at h
  refine y_seq ?_
  refine y_region rfl rfl ?_
  refine xb_boxL (ZB := zbs) rfl rfl rfl rfl rfl rfl rfl rfl rfl rfl rfl ?_
  refine xb_run zbs 1 rfl rfl ?_
  refine xb_end ?_
  refine y_nf ?_
  refine y_seq ?_
  refine y_region rfl rfl ?_
  refine xb_run zbs 5 rfl rfl ?_
  refine xb_slice (ZB := zbs) (es := List.map Record.row [(⟨1, a0.Term, a0.Vote, (⟨0, 0, 0, (⟨[], []⟩ : Config), []⟩ : Entry), 0, (⟨0, 0, (⟨[], []⟩ : Config), []⟩ : Snapshot)⟩ : Record)]) 2 0 rfl rfl rfl rfl rfl rfl rfl rfl rfl rfl rfl rfl rfl rfl rfl rfl rfl ?_
  refine xb_run zbs 1 rfl rfl ?_
  refine xb_end ?_
  refine y_nf ?_
  obtain ⟨J2, hJ2, h⟩ := jnE h
  refine y_join1 (df' := []) (fun (v1 : List Record) => [(1, .lr 1 0), (2, .v (.ls (List.map Record.row []) 15 0 0)), (3, .v (.ls (List.map Record.row v1) 15 3 2))]) (fun (v1 : List Record) => [(1, (Kept.cells 1 a0))]) (fun (v1 : List Record) => []) (fun (v1 : List Record) => J2 v1 = some y) ?_ ?_
  · refine y_seq ?_
    refine y_region rfl rfl ?_
    refine xb_run zbs 3 rfl rfl ?_
    obtain ⟨r3, hf4, h⟩ := bnd h
    refine xb_call0 (ZB := zbs) 1 (.bool r3) rfl rfl rfl rfl rfl rfl rfl (f21_ok a0.Snap (⟨0, 0, (⟨[], []⟩ : Config), []⟩ : Snapshot) _ hf4) rfl rfl rfl rfl ?_
    refine xb_run zbs 1 rfl rfl ?_
    refine xb_end ?_
    refine y_nf ?_
    refine y_cond rfl (fun hc => ?_) (fun hc => ?_)
    · replace h := condT h hc
      refine y_region rfl rfl ?_
      refine xb_run zbs 3 rfl rfl ?_
      obtain ⟨r5, hf6, h⟩ := bnd h
      refine xb_call0 (ZB := zbs) 1 (.agg (Snapshot.cells 2 r5)) rfl rfl rfl rfl rfl rfl rfl (f12_ok a0.Snap _ hf6) rfl rfl rfl rfl ?_
      refine xb_run zbs 1 rfl rfl ?_
      refine xb_slice (ZB := zbs) (es := List.map Record.row [(⟨4, 0, 0, (⟨0, 0, 0, (⟨[], []⟩ : Config), []⟩ : Entry), 0, r5⟩ : Record)]) 3 2 rfl rfl rfl rfl rfl rfl rfl rfl rfl rfl rfl rfl rfl rfl rfl rfl rfl ?_
      obtain ⟨x7, ha8, h⟩ := bnd h
      refine xb_app (ZB := zbs) 2 2 rfl rfl rfl rfl rfl rfl rfl rfl rfl ha8 rfl rfl rfl rfl (.inl rfl) rfl rfl rfl ?_
      refine xb_run zbs 1 rfl rfl ?_
      refine xb_end ?_
      exact ⟨x7, SubW.cons rfl .refl (SubW.cons rfl .refl (SubW.cons rfl .refl SubW.nil)), SubC'.cons rfl .refl SubC'.nil, SubC'.nil, rfl, h⟩
    · replace h := condF h hc
      refine y_skip ?_
      exact ⟨[(⟨1, a0.Term, a0.Vote, (⟨0, 0, 0, (⟨[], []⟩ : Config), []⟩ : Entry), 0, (⟨0, 0, (⟨[], []⟩ : Config), []⟩ : Snapshot)⟩ : Record)], SubW.cons rfl .refl (SubW.cons rfl .refl (SubW.cons rfl (.v (.mask rfl)) SubW.nil)), SubC'.cons rfl .refl SubC'.nil, SubC'.nil, rfl, h⟩
  · intro v1 h
    subst hJ2
    obtain ⟨J10, hJ10, h⟩ := jnE h
    refine y_join1 (df' := []) (fun (v9 : List Record) => [(2, .v (.ls (List.map Record.row []) 15 0 0)), (3, .v (.ls (List.map Record.row v9) 15 3 2))]) (fun (v9 : List Record) => []) (fun (v9 : List Record) => []) (fun (v9 : List Record) => J10 v9 = some y) ?_ ?_
    · refine y_seq ?_
      refine y_region rfl rfl ?_
      refine xb_run zbs 1 rfl rfl ?_
      refine xb_end ?_
      refine y_nf ?_
      refine y_block ?_
      refine y_lp2 h (fun (v13 : List Record) (v14 : Int) => [(1, .lr 1 0), (2, .v (.ls (List.map Record.row []) 15 0 0)), (3, .v (.ls (List.map Record.row v13) 15 3 2)), (4, .v (.int .i64 v14))]) (fun (v13 : List Record) (v14 : Int) => [(1, (Kept.cells 1 a0))]) (fun (v13 : List Record) (v14 : Int) => []) (SubW.cons rfl .refl (SubW.cons rfl .refl (SubW.cons rfl .refl (SubW.cons rfl .refl SubW.nil)))) (SubC'.cons rfl .refl SubC'.nil) SubC'.nil ?_
      intro v13 v14 w15 h
      refine y_seq ?_
      refine y_seq ?_
      refine y_region rfl rfl ?_
      refine xb_run zbs 3 rfl rfl ?_
      refine xb_pure rfl (pLenB rfl rfl rfl rfl rfl) rfl rfl rfl rfl ?_
      refine xb_run zbs 1 rfl rfl ?_
      refine xb_end ?_
      refine y_nf ?_
      refine y_cond rfl (fun hc => ?_) (fun hc => ?_)
      · replace h := condT h hc
        refine y_skip ?_
        refine y_nf ?_
        refine y_seq ?_
        refine y_block ?_
        refine y_region rfl rfl ?_
        refine xb_run zbs 4 rfl rfl ?_
        obtain ⟨x16, hx17, h⟩ := bnd h
        refine xb_pure rfl (pIdxB rfl rfl rfl rfl hx17) rfl rfl rfl rfl ?_
        refine xb_run zbs 1 rfl rfl ?_
        obtain ⟨r18, hf19, h⟩ := bnd h
        refine xb_call0 (ZB := zbs) 1 (.agg (Entry.cells 2 r18)) rfl rfl rfl rfl rfl rfl rfl (f13_ok x16 _ hf19) rfl rfl rfl rfl ?_
        refine xb_run zbs 1 rfl rfl ?_
        refine xb_slice (ZB := zbs) (es := List.map Record.row [(⟨2, 0, 0, r18, 0, (⟨0, 0, (⟨[], []⟩ : Config), []⟩ : Snapshot)⟩ : Record)]) 4 2 rfl rfl rfl rfl rfl rfl rfl rfl rfl rfl rfl rfl rfl rfl rfl rfl rfl ?_
        obtain ⟨x20, ha21, h⟩ := bnd h
        refine xb_app (ZB := zbs) 2 2 rfl rfl rfl rfl rfl rfl rfl rfl rfl ha21 rfl rfl rfl rfl (.inl rfl) rfl rfl rfl ?_
        refine xb_run zbs 1 rfl rfl ?_
        refine xb_end ?_
        refine y_nf ?_
        refine y_region rfl rfl ?_
        refine xb_run zbs 3 rfl rfl ?_
        refine xb_end ?_
        cases h
        exact ⟨(x20, (fwrap .i64 (v14 + 1))), rfl, SubW.cons rfl .refl (SubW.cons rfl .refl (SubW.cons rfl .refl (SubW.cons rfl .refl SubW.nil))), SubC'.cons rfl .refl SubC'.nil, SubC'.nil, rfl⟩
      · replace h := condF h hc
        cases h
        refine y_exit ⟨_, rfl, fun h => ?_⟩
        exact ⟨v13, SubW.cons rfl .refl (SubW.cons rfl .refl SubW.nil), SubC'.nil, SubC'.nil, rfl, h⟩
    · intro v9 h
      subst hJ10
      refine y_seq ?_
      refine y_region rfl rfl ?_
      refine xb_run zbs 2 rfl rfl ?_
      refine xb_end ?_
      refine y_nf ?_
      cases h
      refine y_ret ?_
      exact ends_retB 2 rfl rfl Has.nil ⟨rfl, rfl⟩

/-- folkmoot/folkmootref15.Right -/
def F17 (a0 : Kept) : Option (Bool) :=
  jn (fun (v1 : Bool) => bif v1 then (some false) else (jn ((F41 a0).bind fun r13 => jn (some true) fun J15 => lp1 (fun (v17 : Int) => bif (decide (v17 < (len r13))) then ((idx r13 v17).bind fun x19 => (F42 x19).bind fun r21 => bif (r21 != 0) then (some (.inr (.inr false))) else (some (.inl (fwrap .i64 (v17 + 1))))) else (some (.inr (.inl ())))) 0 (fun (_ : Unit) => J15)) fun J7 => lp1 (fun (v9 : Int) => bif (decide (v9 < (len a0.Entries))) then ((idx a0.Entries v9).bind fun x11 => bif (x11.Index != (fwrap .i64 ((fwrap .i64 (a0.Snap.Index + 1)) + v9))) then (some (.inr (.inr false))) else (some (.inl (fwrap .i64 (v9 + 1))))) else (some (.inr (.inl ())))) 0 (fun (_ : Unit) => J7))) fun J2 => bif (decide ((len a0.Entries) > 10000)) then (J2 true) else (bif (decide (a0.Snap.Index < 1)) then ((F21 a0.Snap (⟨0, 0, (⟨[], []⟩ : Config), []⟩ : Snapshot)).bind fun r5 => J2 (!r5)) else (J2 false))
theorem f17_ok (a0 : Kept) (y : Bool) (h : F17 a0 = some y) : CallB (evalL tis funs hints) noP 17 [.agg (Kept.cells 1 a0)] [] (fun r ob => r = .ret (.bool y) ∧ ob = []) := by
  refine ansB_of rfl rfl rfl rfl fun om pi hp => ?_
  unfold F17 at h
  refine y_seq ?_
  refine y_region rfl rfl ?_
  refine xb_boxL (ZB := zbs) rfl rfl rfl rfl rfl rfl rfl rfl rfl rfl rfl ?_
  refine xb_run zbs 1 rfl rfl ?_
  refine xb_end ?_
  refine y_nf ?_
  refine y_seq ?_
  obtain ⟨J2, hJ2, h⟩ := jnE h
  refine y_join1 (df' := []) (fun (v1 : Bool) => [(1, .lr 1 0), (2, .v (.bool false)), (24, .v (.bool v1))]) (fun (v1 : Bool) => [(1, (Kept.cells 1 a0))]) (fun (v1 : Bool) => []) (fun (v1 : Bool) => J2 v1 = some y) ?_ ?_
  · refine y_region rfl rfl ?_
    refine xb_run zbs 2 rfl rfl ?_
    refine xb_pure rfl (pLenB rfl rfl rfl rfl rfl) rfl rfl rfl rfl ?_
    refine xb_run zbs 2 rfl rfl ?_
    cases hg3 : (decide ((len a0.Entries) > 10000)) with
    | false =>
      replace h := condF h hg3
      refine xb_run zbs 5 rfl rfl ?_
      cases hg4 : (decide (a0.Snap.Index < 1)) with
      | false =>
        replace h := condF h hg4
        refine xb_run zbs 7 rfl rfl ?_
        refine xb_end ?_
        exact ⟨false, SubW.cons rfl .refl (SubW.cons rfl .refl (SubW.cons rfl .refl SubW.nil)), SubC'.cons rfl .refl SubC'.nil, SubC'.nil, rfl, h⟩
      | true =>
        replace h := condT h hg4
        refine xb_run zbs 3 rfl rfl ?_
        obtain ⟨r5, hf6, h⟩ := bnd h
        refine xb_call0 (ZB := zbs) 1 (.bool r5) rfl rfl rfl rfl rfl rfl rfl (f21_ok a0.Snap (⟨0, 0, (⟨[], []⟩ : Config), []⟩ : Snapshot) _ hf6) rfl rfl rfl rfl ?_
        refine xb_run zbs 3 rfl rfl ?_
        refine xb_end ?_
        exact ⟨(!r5), SubW.cons rfl .refl (SubW.cons rfl .refl (SubW.cons rfl .refl SubW.nil)), SubC'.cons rfl .refl SubC'.nil, SubC'.nil, rfl, h⟩
    | true =>
      replace h := condT h hg3
      refine xb_run zbs 12 rfl rfl ?_
      refine xb_end ?_
      exact ⟨true, SubW.cons rfl .refl (SubW.cons rfl .refl (SubW.cons rfl .refl SubW.nil)), SubC'.cons rfl .refl SubC'.nil, SubC'.nil, rfl, h⟩
  · intro v1 h
    subst hJ2
    refine y_cond rfl (fun hc => ?_) (fun hc => ?_)
    · replace h := condT h hc
      refine y_seq ?_
      refine y_region rfl rfl ?_
      refine xb_run zbs 1 rfl rfl ?_
      refine xb_end ?_
      refine y_nf ?_
      cases h
      refine y_ret ?_
      exact ends_retB 0 rfl rfl Has.nil ⟨rfl, rfl⟩
    · replace h := condF h hc
      refine y_skip ?_
      refine y_nf ?_
      obtain ⟨J7, hJ7, h⟩ := jnE h
      refine y_join0 (df' := []) [(1, .lr 1 0), (2, .v (.bool false))] [(1, (Kept.cells 1 a0))] [] (J7 = some y) ?_ ?_
      · refine y_seq ?_
        refine y_region rfl rfl ?_
        refine xb_run zbs 1 rfl rfl ?_
        refine xb_end ?_
        refine y_nf ?_
        refine y_block ?_
        refine y_lp1 h (fun (v9 : Int) => [(1, .lr 1 0), (2, .v (.bool false)), (3, .v (.int .i64 v9))]) (fun (v9 : Int) => [(1, (Kept.cells 1 a0))]) (fun (v9 : Int) => []) (SubW.cons rfl .refl (SubW.cons rfl .refl (SubW.cons rfl .refl SubW.nil))) (SubC'.cons rfl .refl SubC'.nil) SubC'.nil ?_
        intro v9 w10 h
        refine y_seq ?_
        refine y_seq ?_
        refine y_region rfl rfl ?_
        refine xb_run zbs 3 rfl rfl ?_
        refine xb_pure rfl (pLenB rfl rfl rfl rfl rfl) rfl rfl rfl rfl ?_
        refine xb_run zbs 1 rfl rfl ?_
        refine xb_end ?_
        refine y_nf ?_
        refine y_cond rfl (fun hc => ?_) (fun hc => ?_)
        · replace h := condT h hc
          refine y_skip ?_
          refine y_nf ?_
          refine y_seq ?_
          refine y_block ?_
          refine y_seq ?_
          refine y_region rfl rfl ?_
          refine xb_run zbs 3 rfl rfl ?_
          obtain ⟨x11, hx12, h⟩ := bnd h
          refine xb_pure rfl (pIdxB rfl rfl rfl rfl hx12) rfl rfl rfl rfl ?_
          refine xb_run zbs 9 rfl rfl ?_
          refine xb_end ?_
          refine y_nf ?_
          refine y_cond rfl (fun hc => ?_) (fun hc => ?_)
          · replace h := condT h hc
            refine y_seq ?_
            refine y_region rfl rfl ?_
            refine xb_run zbs 1 rfl rfl ?_
            refine xb_end ?_
            refine y_nf ?_
            cases h
            refine y_ret ⟨_, rfl, fun h => ?_⟩
            cases h
            exact ends_retB 0 rfl rfl Has.nil ⟨rfl, rfl⟩
          · replace h := condF h hc
            refine y_skip ?_
            refine y_nf ?_
            refine y_region rfl rfl ?_
            refine xb_run zbs 3 rfl rfl ?_
            refine xb_end ?_
            cases h
            exact ⟨(fwrap .i64 (v9 + 1)), rfl, SubW.cons rfl .refl (SubW.cons rfl .refl (SubW.cons rfl .refl SubW.nil)), SubC'.cons rfl .refl SubC'.nil, SubC'.nil, rfl⟩
        · replace h := condF h hc
          cases h
          refine y_exit ⟨_, rfl, fun h => ?_⟩
          exact ⟨(), SubW.cons rfl .refl (SubW.cons rfl .refl SubW.nil), SubC'.cons rfl .refl SubC'.nil, SubC'.nil, rfl, h⟩
      · intro h
        subst hJ7
        refine y_seq ?_
        refine y_region rfl rfl ?_
        refine xb_run zbs 1 rfl rfl ?_
        obtain ⟨r13, hf14, h⟩ := bnd h
        refine xb_call0 (ZB := zbs) 1 (.ls (List.map Record.row r13) 15 0 2) rfl rfl rfl rfl rfl rfl rfl (f41_ok a0 _ hf14) rfl rfl rfl rfl ?_
        refine xb_run zbs 1 rfl rfl ?_
        refine xb_end ?_
        refine y_nf ?_
        obtain ⟨J15, hJ15, h⟩ := jnE h
        refine y_join0 (df' := []) [(2, .v (.bool false))] [] [] (J15 = some y) ?_ ?_
        · refine y_seq ?_
          refine y_region rfl rfl ?_
          refine xb_run zbs 1 rfl rfl ?_
          refine xb_end ?_
          refine y_nf ?_
          refine y_block ?_
          refine y_lp1 h (fun (v17 : Int) => [(2, .v (.bool false)), (4, .v (.ls (List.map Record.row r13) 15 0 2)), (5, .v (.int .i64 v17))]) (fun (v17 : Int) => []) (fun (v17 : Int) => []) (SubW.cons rfl .refl (SubW.cons rfl .refl (SubW.cons rfl .refl SubW.nil))) SubC'.nil SubC'.nil ?_
          intro v17 w18 h
          refine y_seq ?_
          refine y_seq ?_
          refine y_region rfl rfl ?_
          refine xb_run zbs 2 rfl rfl ?_
          refine xb_pure rfl (pLenB rfl rfl rfl rfl rfl) rfl rfl rfl rfl ?_
          refine xb_run zbs 1 rfl rfl ?_
          refine xb_end ?_
          refine y_nf ?_
          refine y_cond rfl (fun hc => ?_) (fun hc => ?_)
          · replace h := condT h hc
            refine y_skip ?_
            refine y_nf ?_
            refine y_seq ?_
            refine y_block ?_
            refine y_seq ?_
            refine y_region rfl rfl ?_
            refine xb_run zbs 2 rfl rfl ?_
            obtain ⟨x19, hx20, h⟩ := bnd h
            refine xb_pure rfl (pIdxB rfl rfl rfl rfl hx20) rfl rfl rfl rfl ?_
            refine xb_run zbs 1 rfl rfl ?_
            obtain ⟨r21, hf22, h⟩ := bnd h
            refine xb_call0 (ZB := zbs) 2 (.tup [.any, .int .i64 r21]) rfl rfl rfl rfl rfl rfl rfl (f42_ok x19 _ hf22) rfl rfl rfl rfl ?_
            refine xb_run zbs 5 rfl rfl ?_
            refine xb_end ?_
            refine y_nf ?_
            refine y_seq ?_
            refine y_region rfl rfl ?_
            refine xb_run zbs 2 rfl rfl ?_
            refine xb_end ?_
            refine y_nf ?_
            refine y_cond rfl (fun hc => ?_) (fun hc => ?_)
            · replace h := condT h hc
              refine y_seq ?_
              refine y_region rfl rfl ?_
              refine xb_run zbs 1 rfl rfl ?_
              refine xb_end ?_
              refine y_nf ?_
              cases h
              refine y_ret ⟨_, rfl, fun h => ?_⟩
              cases h
              exact ends_retB 0 rfl rfl Has.nil ⟨rfl, rfl⟩
            · replace h := condF h hc
              refine y_skip ?_
              refine y_nf ?_
              refine y_region rfl rfl ?_
              refine xb_run zbs 3 rfl rfl ?_
              refine xb_end ?_
              cases h
              exact ⟨(fwrap .i64 (v17 + 1)), rfl, SubW.cons rfl .refl (SubW.cons rfl .refl (SubW.cons rfl .refl SubW.nil)), SubC'.nil, SubC'.nil, rfl⟩
          · replace h := condF h hc
            cases h
            refine y_exit ⟨_, rfl, fun h => ?_⟩
            exact ⟨(), SubW.cons rfl .refl SubW.nil, SubC'.nil, SubC'.nil, rfl, h⟩
        · intro h
          subst hJ15
          refine y_seq ?_
          refine y_region rfl rfl ?_
          refine xb_run zbs 1 rfl rfl ?_
          refine xb_end ?_
          refine y_nf ?_
          cases h
          refine y_ret ?_
          exact ends_retB 0 rfl rfl Has.nil ⟨rfl, rfl⟩

/-- folkmoot/folkmootref15.May -/
def F19 (a0 : Record) : Option (Bool) :=
  (F42 a0).bind fun r1 => jn (fun (v3 : Bool) => (F22 a0.Entry (⟨0, 0, 0, (⟨[], []⟩ : Config), []⟩ : Entry)).bind fun r6 => (F21 a0.Snap (⟨0, 0, (⟨[], []⟩ : Config), []⟩ : Snapshot)).bind fun r8 => bif (a0.Kind == 1) then (jn (fun (v10 : Bool) => some v10) fun J11 => bif (r1 == 0) then (bif r6 then (bif (a0.Index == 0) then (J11 r8) else (J11 false)) else (J11 false)) else (J11 false)) else (bif (a0.Kind == 2) then (jn (fun (v15 : Bool) => some v15) fun J16 => bif (r1 == 0) then (bif v3 then (bif (a0.Index == 0) then (J16 r8) else (J16 false)) else (J16 false)) else (J16 false)) else (bif (a0.Kind == 3) then (jn (fun (v20 : Bool) => some v20) fun J21 => bif (r1 == 0) then (bif v3 then (bif r6 then (J21 r8) else (J21 false)) else (J21 false)) else (J21 false)) else (bif (a0.Kind == 4) then (jn (fun (v25 : Bool) => some v25) fun J26 => bif (r1 == 0) then (bif v3 then (bif r6 then (J26 (a0.Index == 0)) else (J26 false)) else (J26 false)) else (J26 false)) else (some false))))) fun J4 => bif (a0.Term == 0) then (J4 (a0.Vote == 0)) else (J4 false)
theorem f19_ok (a0 : Record) (y : Bool) (h : F19 a0 = some y) : CallB (evalL tis funs hints) noP 19 [.agg (Record.cells 1 a0)] [] (fun r ob => r = .ret (.bool y) ∧ ob = []) := by
  refine ansB_of rfl rfl rfl rfl fun om pi hp => ?_
  unfold F19 at h
  refine y_seq ?_
  refine y_region rfl rfl ?_
  refine xb_boxL (ZB := zbs) rfl rfl rfl rfl rfl rfl rfl rfl rfl rfl rfl ?_
  refine xb_run zbs 1 rfl rfl ?_
  refine xb_end ?_
  refine y_nf ?_
  refine y_seq ?_
  refine y_region rfl rfl ?_
  refine xb_run zbs 1 rfl rfl ?_
  obtain ⟨r1, hf2, h⟩ := bnd h
  refine xb_call0 (ZB := zbs) 1 (.tup [.any, .int .i64 r1]) rfl rfl rfl rfl rfl rfl rfl (f42_ok a0 _ hf2) rfl rfl rfl rfl ?_
  refine xb_run zbs 5 rfl rfl ?_
  refine xb_end ?_
  refine y_nf ?_
  obtain ⟨J4, hJ4, h⟩ := jnE h
  refine y_join1 (df' := []) (fun (v3 : Bool) => [(1, .lr 1 0), (2, .v (.bool false)), (4, .v (.int .i64 r1)), (5, .v (.bool v3))]) (fun (v3 : Bool) => [(1, (Record.cells 1 a0))]) (fun (v3 : Bool) => []) (fun (v3 : Bool) => J4 v3 = some y) ?_ ?_
  · refine y_region rfl rfl ?_
    refine xb_run zbs 4 rfl rfl ?_
    cases hg5 : (a0.Term == 0) with
    | false =>
      replace h := condF h hg5
      refine xb_run zbs 5 rfl rfl ?_
      refine xb_end ?_
      exact ⟨false, SubW.cons rfl .refl (SubW.cons rfl .refl (SubW.cons rfl .refl (SubW.cons rfl .refl SubW.nil))), SubC'.cons rfl .refl SubC'.nil, SubC'.nil, rfl, h⟩
    | true =>
      replace h := condT h hg5
      refine xb_run zbs 5 rfl rfl ?_
      refine xb_end ?_
      exact ⟨(a0.Vote == 0), SubW.cons rfl .refl (SubW.cons rfl .refl (SubW.cons rfl .refl (SubW.cons rfl .refl SubW.nil))), SubC'.cons rfl .refl SubC'.nil, SubC'.nil, rfl, h⟩
  · intro v3 h
    subst hJ4
    refine y_seq ?_
    refine y_region rfl rfl ?_
    refine xb_run zbs 3 rfl rfl ?_
    obtain ⟨r6, hf7, h⟩ := bnd h
    refine xb_call0 (ZB := zbs) 1 (.bool r6) rfl rfl rfl rfl rfl rfl rfl (f22_ok a0.Entry (⟨0, 0, 0, (⟨[], []⟩ : Config), []⟩ : Entry) _ hf7) rfl rfl rfl rfl ?_
    refine xb_run zbs 1 rfl rfl ?_
    refine xb_end ?_
    refine y_nf ?_
    refine y_seq ?_
    refine y_region rfl rfl ?_
    refine xb_run zbs 4 rfl rfl ?_
    refine xb_end ?_
    refine y_nf ?_
    refine y_seq ?_
    refine y_region rfl rfl ?_
    refine xb_run zbs 3 rfl rfl ?_
    obtain ⟨r8, hf9, h⟩ := bnd h
    refine xb_call0 (ZB := zbs) 1 (.bool r8) rfl rfl rfl rfl rfl rfl rfl (f21_ok a0.Snap (⟨0, 0, (⟨[], []⟩ : Config), []⟩ : Snapshot) _ hf9) rfl rfl rfl rfl ?_
    refine xb_run zbs 1 rfl rfl ?_
    refine xb_end ?_
    refine y_nf ?_
    refine y_seq ?_
    refine y_seq ?_
    refine y_region rfl rfl ?_
    refine xb_run zbs 2 rfl rfl ?_
    refine xb_end ?_
    refine y_nf ?_
    refine y_block ?_
    refine y_seq ?_
    refine y_region rfl rfl ?_
    refine xb_run zbs 2 rfl rfl ?_
    refine xb_end ?_
    refine y_nf ?_
    refine y_cond rfl (fun hc => ?_) (fun hc => ?_)
    · replace h := condT h hc
      obtain ⟨J11, hJ11, h⟩ := jnE h
      refine y_join1 (df' := []) (fun (v10 : Bool) => [(2, .v (.bool v10))]) (fun (v10 : Bool) => []) (fun (v10 : Bool) => []) (fun (v10 : Bool) => J11 v10 = some y) ?_ ?_
      · refine y_region rfl rfl ?_
        refine xb_run zbs 3 rfl rfl ?_
        cases hg12 : (r1 == 0) with
        | false =>
          replace h := condF h hg12
          refine xb_run zbs 9 rfl rfl ?_
          refine xb_end ?_
          exact ⟨false, SubW.cons rfl .refl SubW.nil, SubC'.nil, SubC'.nil, rfl, h⟩
        | true =>
          replace h := condT h hg12
          refine xb_run zbs 3 rfl rfl ?_
          cases hg13 : r6 with
          | false =>
            replace h := condF h hg13
            refine xb_run zbs 6 rfl rfl ?_
            refine xb_end ?_
            exact ⟨false, SubW.cons rfl .refl SubW.nil, SubC'.nil, SubC'.nil, rfl, h⟩
          | true =>
            replace h := condT h hg13
            refine xb_run zbs 3 rfl rfl ?_
            cases hg14 : (a0.Index == 0) with
            | false =>
              replace h := condF h hg14
              refine xb_run zbs 3 rfl rfl ?_
              refine xb_end ?_
              exact ⟨false, SubW.cons rfl .refl SubW.nil, SubC'.nil, SubC'.nil, rfl, h⟩
            | true =>
              replace h := condT h hg14
              refine xb_run zbs 3 rfl rfl ?_
              refine xb_end ?_
              exact ⟨r8, SubW.cons rfl .refl SubW.nil, SubC'.nil, SubC'.nil, rfl, h⟩
      · intro v10 h
        subst hJ11
        cases h
        refine y_ret ?_
        exact ends_retB 0 rfl rfl Has.nil ⟨rfl, rfl⟩
    · replace h := condF h hc
      refine y_seq ?_
      refine y_region rfl rfl ?_
      refine xb_run zbs 2 rfl rfl ?_
      refine xb_end ?_
      refine y_nf ?_
      refine y_cond rfl (fun hc => ?_) (fun hc => ?_)
      · replace h := condT h hc
        obtain ⟨J16, hJ16, h⟩ := jnE h
        refine y_join1 (df' := []) (fun (v15 : Bool) => [(2, .v (.bool v15))]) (fun (v15 : Bool) => []) (fun (v15 : Bool) => []) (fun (v15 : Bool) => J16 v15 = some y) ?_ ?_
        · refine y_region rfl rfl ?_
          refine xb_run zbs 3 rfl rfl ?_
          cases hg17 : (r1 == 0) with
          | false =>
            replace h := condF h hg17
            refine xb_run zbs 9 rfl rfl ?_
            refine xb_end ?_
            exact ⟨false, SubW.cons rfl .refl SubW.nil, SubC'.nil, SubC'.nil, rfl, h⟩
          | true =>
            replace h := condT h hg17
            refine xb_run zbs 3 rfl rfl ?_
            cases hg18 : v3 with
            | false =>
              replace h := condF h hg18
              refine xb_run zbs 6 rfl rfl ?_
              refine xb_end ?_
              exact ⟨false, SubW.cons rfl .refl SubW.nil, SubC'.nil, SubC'.nil, rfl, h⟩
            | true =>
              replace h := condT h hg18
              refine xb_run zbs 3 rfl rfl ?_
              cases hg19 : (a0.Index == 0) with
              | false =>
                replace h := condF h hg19
                refine xb_run zbs 3 rfl rfl ?_
                refine xb_end ?_
                exact ⟨false, SubW.cons rfl .refl SubW.nil, SubC'.nil, SubC'.nil, rfl, h⟩
              | true =>
                replace h := condT h hg19
                refine xb_run zbs 3 rfl rfl ?_
                refine xb_end ?_
                exact ⟨r8, SubW.cons rfl .refl SubW.nil, SubC'.nil, SubC'.nil, rfl, h⟩
        · intro v15 h
          subst hJ16
          cases h
          refine y_ret ?_
          exact ends_retB 0 rfl rfl Has.nil ⟨rfl, rfl⟩
      · replace h := condF h hc
        refine y_seq ?_
        refine y_region rfl rfl ?_
        refine xb_run zbs 2 rfl rfl ?_
        refine xb_end ?_
        refine y_nf ?_
        refine y_cond rfl (fun hc => ?_) (fun hc => ?_)
        · replace h := condT h hc
          obtain ⟨J21, hJ21, h⟩ := jnE h
          refine y_join1 (df' := []) (fun (v20 : Bool) => [(2, .v (.bool v20))]) (fun (v20 : Bool) => []) (fun (v20 : Bool) => []) (fun (v20 : Bool) => J21 v20 = some y) ?_ ?_
          · refine y_region rfl rfl ?_
            refine xb_run zbs 3 rfl rfl ?_
            cases hg22 : (r1 == 0) with
            | false =>
              replace h := condF h hg22
              refine xb_run zbs 9 rfl rfl ?_
              refine xb_end ?_
              exact ⟨false, SubW.cons rfl .refl SubW.nil, SubC'.nil, SubC'.nil, rfl, h⟩
            | true =>
              replace h := condT h hg22
              refine xb_run zbs 3 rfl rfl ?_
              cases hg23 : v3 with
              | false =>
                replace h := condF h hg23
                refine xb_run zbs 6 rfl rfl ?_
                refine xb_end ?_
                exact ⟨false, SubW.cons rfl .refl SubW.nil, SubC'.nil, SubC'.nil, rfl, h⟩
              | true =>
                replace h := condT h hg23
                refine xb_run zbs 3 rfl rfl ?_
                cases hg24 : r6 with
                | false =>
                  replace h := condF h hg24
                  refine xb_run zbs 3 rfl rfl ?_
                  refine xb_end ?_
                  exact ⟨false, SubW.cons rfl .refl SubW.nil, SubC'.nil, SubC'.nil, rfl, h⟩
                | true =>
                  replace h := condT h hg24
                  refine xb_run zbs 3 rfl rfl ?_
                  refine xb_end ?_
                  exact ⟨r8, SubW.cons rfl .refl SubW.nil, SubC'.nil, SubC'.nil, rfl, h⟩
          · intro v20 h
            subst hJ21
            cases h
            refine y_ret ?_
            exact ends_retB 0 rfl rfl Has.nil ⟨rfl, rfl⟩
        · replace h := condF h hc
          refine y_seq ?_
          refine y_region rfl rfl ?_
          refine xb_run zbs 2 rfl rfl ?_
          refine xb_end ?_
          refine y_nf ?_
          refine y_cond rfl (fun hc => ?_) (fun hc => ?_)
          · replace h := condT h hc
            obtain ⟨J26, hJ26, h⟩ := jnE h
            refine y_join1 (df' := []) (fun (v25 : Bool) => [(2, .v (.bool v25))]) (fun (v25 : Bool) => []) (fun (v25 : Bool) => []) (fun (v25 : Bool) => J26 v25 = some y) ?_ ?_
            · refine y_region rfl rfl ?_
              refine xb_run zbs 3 rfl rfl ?_
              cases hg27 : (r1 == 0) with
              | false =>
                replace h := condF h hg27
                refine xb_run zbs 9 rfl rfl ?_
                refine xb_end ?_
                exact ⟨false, SubW.cons rfl .refl SubW.nil, SubC'.nil, SubC'.nil, rfl, h⟩
              | true =>
                replace h := condT h hg27
                refine xb_run zbs 3 rfl rfl ?_
                cases hg28 : v3 with
                | false =>
                  replace h := condF h hg28
                  refine xb_run zbs 6 rfl rfl ?_
                  refine xb_end ?_
                  exact ⟨false, SubW.cons rfl .refl SubW.nil, SubC'.nil, SubC'.nil, rfl, h⟩
                | true =>
                  replace h := condT h hg28
                  refine xb_run zbs 3 rfl rfl ?_
                  cases hg29 : r6 with
                  | false =>
                    replace h := condF h hg29
                    refine xb_run zbs 3 rfl rfl ?_
                    refine xb_end ?_
                    exact ⟨false, SubW.cons rfl .refl SubW.nil, SubC'.nil, SubC'.nil, rfl, h⟩
                  | true =>
                    replace h := condT h hg29
                    refine xb_run zbs 3 rfl rfl ?_
                    refine xb_end ?_
                    exact ⟨(a0.Index == 0), SubW.cons rfl .refl SubW.nil, SubC'.nil, SubC'.nil, rfl, h⟩
            · intro v25 h
              subst hJ26
              cases h
              refine y_ret ?_
              exact ends_retB 0 rfl rfl Has.nil ⟨rfl, rfl⟩
          · replace h := condF h hc
            refine y_skip ?_
            refine y_nf ?_
            refine y_seq ?_
            refine y_region rfl rfl ?_
            refine xb_run zbs 1 rfl rfl ?_
            refine xb_end ?_
            refine y_nf ?_
            cases h
            refine y_ret ?_
            exact ends_retB 0 rfl rfl Has.nil ⟨rfl, rfl⟩

/-- folkmoot/stable.bare -/
def F34 (a0 : Record) : Option (Bool) :=
  jn (fun (v1 : Bool) (v2 : Bool) (v3 : Bool) => bif (a0.Kind == 1) then (jn (fun (v14 : Bool) => some v14) fun J15 => bif v2 then (bif (a0.Index == 0) then (J15 v3) else (J15 false)) else (J15 false)) else (bif (a0.Kind == 2) then (jn (fun (v18 : Bool) => some v18) fun J19 => bif v1 then (bif (a0.Index == 0) then (J19 v3) else (J19 false)) else (J19 false)) else (bif (a0.Kind == 3) then (jn (fun (v22 : Bool) => some v22) fun J23 => bif v1 then (bif v2 then (J23 v3) else (J23 false)) else (J23 false)) else (bif (a0.Kind == 4) then (jn (fun (v26 : Bool) => some v26) fun J27 => bif v1 then (bif v2 then (J27 (a0.Index == 0)) else (J27 false)) else (J27 false)) else (some false))))) fun J4 => bif (a0.Term == 0) then ((F49 a0.Entry).bind fun r10 => (F26 a0.Snap).bind fun r12 => J4 (a0.Vote == 0) r10 r12) else ((F49 a0.Entry).bind fun r6 => (F26 a0.Snap).bind fun r8 => J4 false r6 r8)
theorem f34_ok (a0 : Record) (y : Bool) (h : F34 a0 = some y) : CallB (evalL tis funs hints) noP 34 [.agg (Record.cells 1 a0)] [] (fun r ob => r = .ret (.bool y) ∧ ob = []) := by
  refine ansB_of rfl rfl rfl rfl fun om pi hp => ?_
  unfold F34 at h
  refine y_seq ?_
  refine y_region rfl rfl ?_
  refine xb_boxL (ZB := zbs) rfl rfl rfl rfl rfl rfl rfl rfl rfl rfl rfl ?_
  refine xb_run zbs 1 rfl rfl ?_
  refine xb_end ?_
  refine y_nf ?_
  obtain ⟨J4, hJ4, h⟩ := jnE h
  refine y_join3 (df' := []) (fun (v1 : Bool) (v2 : Bool) (v3 : Bool) => [(1, .lr 1 0), (2, .v (.bool false)), (3, .v (.bool v1)), (4, .v (.bool v2)), (5, .v (.bool (a0.Index == 0))), (6, .v (.bool v3))]) (fun (v1 : Bool) (v2 : Bool) (v3 : Bool) => [(1, (Record.cells 1 a0))]) (fun (v1 : Bool) (v2 : Bool) (v3 : Bool) => []) (fun (v1 : Bool) (v2 : Bool) (v3 : Bool) => J4 v1 v2 v3 = some y) ?_ ?_
  · refine y_region rfl rfl ?_
    refine xb_run zbs 4 rfl rfl ?_
    cases hg5 : (a0.Term == 0) with
    | false =>
      replace h := condF h hg5
      refine xb_run zbs 1 rfl rfl ?_
      refine xb_skipL (i := 5) rfl rfl rfl rfl rfl ?_
      refine xb_run zbs 5 rfl rfl ?_
      refine xb_look' (i := 12) (ZB := zbs) rfl rfl rfl rfl rfl rfl rfl rfl rfl ?_
      refine xb_run zbs 2 rfl rfl ?_
      refine xb_look' (i := 15) (ZB := zbs) rfl rfl rfl rfl rfl rfl rfl rfl rfl ?_
      obtain ⟨r6, hf7, h⟩ := bnd h
      refine xb_call0 (ZB := zbs) 1 (.bool r6) rfl rfl rfl rfl rfl rfl rfl (f49_ok a0.Entry _ hf7) rfl rfl rfl rfl ?_
      obtain ⟨r8, hf9, h⟩ := bnd h
      refine xb_call0 (ZB := zbs) 1 (.bool r8) rfl rfl rfl rfl rfl rfl rfl (f26_ok a0.Snap _ hf9) rfl rfl rfl rfl ?_
      refine xb_run zbs 4 rfl rfl ?_
      refine xb_end ?_
      exact ⟨(false, r6, r8), SubW.cons rfl .refl (SubW.cons rfl .refl (SubW.cons rfl .refl (SubW.cons rfl .refl (SubW.cons rfl .refl (SubW.cons rfl .refl SubW.nil))))), SubC'.cons rfl .refl SubC'.nil, SubC'.nil, rfl, h⟩
    | true =>
      replace h := condT h hg5
      refine xb_run zbs 1 rfl rfl ?_
      refine xb_look' (i := 5) (ZB := zbs) rfl rfl rfl rfl rfl rfl rfl rfl rfl ?_
      refine xb_run zbs 5 rfl rfl ?_
      refine xb_look' (i := 12) (ZB := zbs) rfl rfl rfl rfl rfl rfl rfl rfl rfl ?_
      refine xb_run zbs 2 rfl rfl ?_
      refine xb_look' (i := 15) (ZB := zbs) rfl rfl rfl rfl rfl rfl rfl rfl rfl ?_
      obtain ⟨r10, hf11, h⟩ := bnd h
      refine xb_call0 (ZB := zbs) 1 (.bool r10) rfl rfl rfl rfl rfl rfl rfl (f49_ok a0.Entry _ hf11) rfl rfl rfl rfl ?_
      obtain ⟨r12, hf13, h⟩ := bnd h
      refine xb_call0 (ZB := zbs) 1 (.bool r12) rfl rfl rfl rfl rfl rfl rfl (f26_ok a0.Snap _ hf13) rfl rfl rfl rfl ?_
      refine xb_run zbs 4 rfl rfl ?_
      refine xb_end ?_
      exact ⟨((a0.Vote == 0), r10, r12), SubW.cons rfl .refl (SubW.cons rfl .refl (SubW.cons rfl .refl (SubW.cons rfl .refl (SubW.cons rfl .refl (SubW.cons rfl .refl SubW.nil))))), SubC'.cons rfl .refl SubC'.nil, SubC'.nil, rfl, h⟩
  · intro v1 v2 v3 h
    subst hJ4
    refine y_seq ?_
    refine y_seq ?_
    refine y_region rfl rfl ?_
    refine xb_run zbs 2 rfl rfl ?_
    refine xb_end ?_
    refine y_nf ?_
    refine y_block ?_
    refine y_seq ?_
    refine y_region rfl rfl ?_
    refine xb_run zbs 2 rfl rfl ?_
    refine xb_end ?_
    refine y_nf ?_
    refine y_cond rfl (fun hc => ?_) (fun hc => ?_)
    · replace h := condT h hc
      obtain ⟨J15, hJ15, h⟩ := jnE h
      refine y_join1 (df' := []) (fun (v14 : Bool) => [(2, .v (.bool v14))]) (fun (v14 : Bool) => []) (fun (v14 : Bool) => []) (fun (v14 : Bool) => J15 v14 = some y) ?_ ?_
      · refine y_region rfl rfl ?_
        refine xb_run zbs 2 rfl rfl ?_
        cases hg16 : v2 with
        | false =>
          replace h := condF h hg16
          refine xb_run zbs 6 rfl rfl ?_
          refine xb_end ?_
          exact ⟨false, SubW.cons rfl .refl SubW.nil, SubC'.nil, SubC'.nil, rfl, h⟩
        | true =>
          replace h := condT h hg16
          refine xb_run zbs 3 rfl rfl ?_
          cases hg17 : (a0.Index == 0) with
          | false =>
            replace h := condF h hg17
            refine xb_run zbs 3 rfl rfl ?_
            refine xb_end ?_
            exact ⟨false, SubW.cons rfl .refl SubW.nil, SubC'.nil, SubC'.nil, rfl, h⟩
          | true =>
            replace h := condT h hg17
            refine xb_run zbs 3 rfl rfl ?_
            refine xb_end ?_
            exact ⟨v3, SubW.cons rfl .refl SubW.nil, SubC'.nil, SubC'.nil, rfl, h⟩
      · intro v14 h
        subst hJ15
        cases h
        refine y_ret ?_
        exact ends_retB 0 rfl rfl Has.nil ⟨rfl, rfl⟩
    · replace h := condF h hc
      refine y_seq ?_
      refine y_region rfl rfl ?_
      refine xb_run zbs 2 rfl rfl ?_
      refine xb_end ?_
      refine y_nf ?_
      refine y_cond rfl (fun hc => ?_) (fun hc => ?_)
      · replace h := condT h hc
        obtain ⟨J19, hJ19, h⟩ := jnE h
        refine y_join1 (df' := []) (fun (v18 : Bool) => [(2, .v (.bool v18))]) (fun (v18 : Bool) => []) (fun (v18 : Bool) => []) (fun (v18 : Bool) => J19 v18 = some y) ?_ ?_
        · refine y_region rfl rfl ?_
          refine xb_run zbs 2 rfl rfl ?_
          cases hg20 : v1 with
          | false =>
            replace h := condF h hg20
            refine xb_run zbs 6 rfl rfl ?_
            refine xb_end ?_
            exact ⟨false, SubW.cons rfl .refl SubW.nil, SubC'.nil, SubC'.nil, rfl, h⟩
          | true =>
            replace h := condT h hg20
            refine xb_run zbs 3 rfl rfl ?_
            cases hg21 : (a0.Index == 0) with
            | false =>
              replace h := condF h hg21
              refine xb_run zbs 3 rfl rfl ?_
              refine xb_end ?_
              exact ⟨false, SubW.cons rfl .refl SubW.nil, SubC'.nil, SubC'.nil, rfl, h⟩
            | true =>
              replace h := condT h hg21
              refine xb_run zbs 3 rfl rfl ?_
              refine xb_end ?_
              exact ⟨v3, SubW.cons rfl .refl SubW.nil, SubC'.nil, SubC'.nil, rfl, h⟩
        · intro v18 h
          subst hJ19
          cases h
          refine y_ret ?_
          exact ends_retB 0 rfl rfl Has.nil ⟨rfl, rfl⟩
      · replace h := condF h hc
        refine y_seq ?_
        refine y_region rfl rfl ?_
        refine xb_run zbs 2 rfl rfl ?_
        refine xb_end ?_
        refine y_nf ?_
        refine y_cond rfl (fun hc => ?_) (fun hc => ?_)
        · replace h := condT h hc
          obtain ⟨J23, hJ23, h⟩ := jnE h
          refine y_join1 (df' := []) (fun (v22 : Bool) => [(2, .v (.bool v22))]) (fun (v22 : Bool) => []) (fun (v22 : Bool) => []) (fun (v22 : Bool) => J23 v22 = some y) ?_ ?_
          · refine y_region rfl rfl ?_
            refine xb_run zbs 2 rfl rfl ?_
            cases hg24 : v1 with
            | false =>
              replace h := condF h hg24
              refine xb_run zbs 6 rfl rfl ?_
              refine xb_end ?_
              exact ⟨false, SubW.cons rfl .refl SubW.nil, SubC'.nil, SubC'.nil, rfl, h⟩
            | true =>
              replace h := condT h hg24
              refine xb_run zbs 3 rfl rfl ?_
              cases hg25 : v2 with
              | false =>
                replace h := condF h hg25
                refine xb_run zbs 3 rfl rfl ?_
                refine xb_end ?_
                exact ⟨false, SubW.cons rfl .refl SubW.nil, SubC'.nil, SubC'.nil, rfl, h⟩
              | true =>
                replace h := condT h hg25
                refine xb_run zbs 3 rfl rfl ?_
                refine xb_end ?_
                exact ⟨v3, SubW.cons rfl .refl SubW.nil, SubC'.nil, SubC'.nil, rfl, h⟩
          · intro v22 h
            subst hJ23
            cases h
            refine y_ret ?_
            exact ends_retB 0 rfl rfl Has.nil ⟨rfl, rfl⟩
        · replace h := condF h hc
          refine y_seq ?_
          refine y_region rfl rfl ?_
          refine xb_run zbs 2 rfl rfl ?_
          refine xb_end ?_
          refine y_nf ?_
          refine y_cond rfl (fun hc => ?_) (fun hc => ?_)
          · replace h := condT h hc
            obtain ⟨J27, hJ27, h⟩ := jnE h
            refine y_join1 (df' := []) (fun (v26 : Bool) => [(2, .v (.bool v26))]) (fun (v26 : Bool) => []) (fun (v26 : Bool) => []) (fun (v26 : Bool) => J27 v26 = some y) ?_ ?_
            · refine y_region rfl rfl ?_
              refine xb_run zbs 2 rfl rfl ?_
              cases hg28 : v1 with
              | false =>
                replace h := condF h hg28
                refine xb_run zbs 6 rfl rfl ?_
                refine xb_end ?_
                exact ⟨false, SubW.cons rfl .refl SubW.nil, SubC'.nil, SubC'.nil, rfl, h⟩
              | true =>
                replace h := condT h hg28
                refine xb_run zbs 3 rfl rfl ?_
                cases hg29 : v2 with
                | false =>
                  replace h := condF h hg29
                  refine xb_run zbs 3 rfl rfl ?_
                  refine xb_end ?_
                  exact ⟨false, SubW.cons rfl .refl SubW.nil, SubC'.nil, SubC'.nil, rfl, h⟩
                | true =>
                  replace h := condT h hg29
                  refine xb_run zbs 3 rfl rfl ?_
                  refine xb_end ?_
                  exact ⟨(a0.Index == 0), SubW.cons rfl .refl SubW.nil, SubC'.nil, SubC'.nil, rfl, h⟩
            · intro v26 h
              subst hJ27
              cases h
              refine y_ret ?_
              exact ends_retB 0 rfl rfl Has.nil ⟨rfl, rfl⟩
          · replace h := condF h hc
            refine y_skip ?_
            refine y_nf ?_
            refine y_seq ?_
            refine y_region rfl rfl ?_
            refine xb_run zbs 1 rfl rfl ?_
            refine xb_end ?_
            refine y_nf ?_
            cases h
            refine y_ret ?_
            exact ends_retB 0 rfl rfl Has.nil ⟨rfl, rfl⟩

/-- folkmoot/folkmootref15.Folded -/
def F20 (a0 : Kept) (a1 : Record) : Option (Kept × Int) :=
  (F6 a0).bind fun r1 => (F43 a0).bind fun r3 => jn (fun (v5 : Int) (v6 : Int) (v7 : Snapshot) (v8 : List Entry) => some ((⟨v5, v6, v7, v8⟩ : Kept), 0)) fun J9 => bif (a1.Kind == 1) then (bif (decide (a1.Term < a0.Term)) then ((F18 140).bind fun r10 => some (r10.1, r10.2)) else (J9 a1.Term a1.Vote r1.Snap r1.Entries)) else (bif (a1.Kind == 2) then (bif (a1.Entry.Index != (fwrap .i64 (r3 + 1))) then ((F18 140).bind fun r12 => some (r12.1, r12.2)) else (bif (decide ((len a0.Entries) ≥ 10000)) then ((F18 2).bind fun r14 => some (r14.1, r14.2)) else ((F13 a1.Entry).bind fun r16 => (app r1.Entries [r16]).bind fun x18 => J9 r1.Term r1.Vote r1.Snap x18))) else (bif (a1.Kind == 3) then (jn (fun (v20 : Bool) => bif v20 then ((F18 140).bind fun r23 => some (r23.1, r23.2)) else ((sli r1.Entries 0 (fwrap .i64 ((fwrap .i64 (a1.Index - a0.Snap.Index)) - 1))).bind fun x25 => J9 r1.Term r1.Vote r1.Snap x25)) fun J21 => bif (decide (a1.Index ≤ a0.Snap.Index)) then (J21 true) else (J21 (decide (a1.Index > r3)))) else (bif (decide (a1.Snap.Index ≤ a0.Snap.Index)) then ((F18 140).bind fun r27 => some (r27.1, r27.2)) else (jn (fun (v29 : List Entry) => (F12 a1.Snap).bind fun r38 => J9 r1.Term r1.Vote r38 v29) fun J30 => jn (fun (v31 : Bool) => bif v31 then ((sli r1.Entries (fwrap .i64 ((fwrap .i64 ((fwrap .i64 (a1.Snap.Index - a0.Snap.Index)) - 1)) + 1)) (len r1.Entries)).bind fun x36 => J30 x36) else (J30 [])) fun J32 => bif (decide ((fwrap .i64 ((fwrap .i64 (a1.Snap.Index - a0.Snap.Index)) - 1)) < (len a0.Entries))) then ((idx a0.Entries (fwrap .i64 ((fwrap .i64 (a1.Snap.Index - a0.Snap.Index)) - 1))).bind fun x34 => J32 (x34.Term == a1.Snap.Term)) else (J32 false)))))
theorem f20_ok (a0 : Kept) (a1 : Record) (y : Kept × Int) (h : F20 a0 a1 = some y) : CallB (evalL tis funs hints) noP 20 [.agg (Kept.cells 1 a0), .agg (Record.cells 1 a1)] [] (fun r ob => r = .ret (.tup [.agg (Kept.cells 2 y.1), .int .i64 y.2]) ∧ ob = []) := by
  refine ansB_of rfl rfl rfl rfl fun om pi hp => ?_
  unfold F20 at h
  refine y_seq ?_
  refine y_region rfl rfl ?_
  refine xb_boxL (ZB := zbs) rfl rfl rfl rfl rfl rfl rfl rfl rfl rfl rfl ?_
  refine xb_boxL (ZB := zbs) rfl rfl rfl rfl rfl rfl rfl rfl rfl rfl rfl ?_
  refine xb_allocL zb30 rfl rfl rfl rfl rfl rfl rfl rfl rfl rfl ?_
  refine xb_run zbs 1 rfl rfl ?_
  refine xb_end ?_
  refine y_nf ?_
  refine y_seq ?_
  refine y_region rfl rfl ?_
  refine xb_run zbs 1 rfl rfl ?_
  obtain ⟨r1, hf2, h⟩ := bnd h
  refine xb_call (ZB := zbs) (P := (fun t => Nat.beq t 87)) ⟨[(2, 87)], [], [], 1, 1⟩ rfl rfl rfl rfl rfl rfl rfl rfl rfl rfl (f6_ok a0 _ hf2) rfl rfl rfl (fun v obr hq => ?_) (fun v obr hq => ?_)
  · obtain ⟨hv, rfl⟩ := hq
    cases hv
    refine xb_re (v' := .agg [.int .i64 r1.Term, .int .i64 r1.Vote, .int .i64 r1.Snap.Index, .int .i64 r1.Snap.Term, .ls (List.map ci r1.Snap.Config.Voters) 1 0 2, .ls (List.map ci r1.Snap.Config.Learners) 1 0 2, .str r1.Snap.Data, .ls (List.map Entry.row r1.Entries) 6 3 2]) (lo' := [(2, (Kept.cells 1 a0)), (3, (Record.cells 1 a1)), (4, [.int .i64 0, .int .i64 0, .int .i64 0, .int .i64 0, .ls (List.map ci []) 1 0 0, .ls (List.map ci []) 1 0 0, .str [], .ls (List.map Entry.row []) 6 0 0])]) (ob' := []) rfl rfl rfl ?_
    refine xb_allocL zb30 rfl rfl rfl rfl rfl rfl rfl rfl rfl rfl ?_
    refine xb_storeL (ZB := zbs) (c' := [.int .i64 r1.Term, .int .i64 r1.Vote, .int .i64 r1.Snap.Index, .int .i64 r1.Snap.Term, .ls (List.map ci r1.Snap.Config.Voters) 1 0 2, .ls (List.map ci r1.Snap.Config.Learners) 1 0 2, .str r1.Snap.Data, .ls (List.map Entry.row r1.Entries) 6 3 2]) rfl rfl rfl rfl rfl rfl rfl rfl rfl rfl rfl ?_
    refine xb_end ?_
    refine y_nf ?_
    refine y_seq ?_
    refine y_region rfl rfl ?_
    refine xb_run zbs 1 rfl rfl ?_
    obtain ⟨r3, hf4, h⟩ := bnd h
    refine xb_call0 (ZB := zbs) 1 (.int .i64 r3) rfl rfl rfl rfl rfl rfl rfl (f43_ok a0 _ hf4) rfl rfl rfl rfl ?_
    refine xb_run zbs 1 rfl rfl ?_
    refine xb_end ?_
    refine y_nf ?_
    obtain ⟨J9, hJ9, h⟩ := jnE h
    refine y_join4 (df' := []) (fun (v5 : Int) (v6 : Int) (v7 : Snapshot) (v8 : List Entry) => [(4, .lr 4 0), (5, .v (.int .i64 0)), (6, .lr 6 0)]) (fun (v5 : Int) (v6 : Int) (v7 : Snapshot) (v8 : List Entry) => [(4, [.int .i64 0, .int .i64 0, .int .i64 0, .int .i64 0, .ls (List.map ci []) 1 0 0, .ls (List.map ci []) 1 0 0, .str [], .ls (List.map Entry.row []) 6 0 0]), (6, [.int .i64 v5, .int .i64 v6, .int .i64 v7.Index, .int .i64 v7.Term, .ls (List.map ci v7.Config.Voters) 1 0 2, .ls (List.map ci v7.Config.Learners) 1 0 2, .str v7.Data, .ls (List.map Entry.row v8) 6 3 2])]) (fun (v5 : Int) (v6 : Int) (v7 : Snapshot) (v8 : List Entry) => []) (fun (v5 : Int) (v6 : Int) (v7 : Snapshot) (v8 : List Entry) => J9 v5 v6 v7 v8 = some y) ?_ ?_
    · refine y_seq ?_
      refine y_region rfl rfl ?_
      refine xb_run zbs 2 rfl rfl ?_
      refine xb_end ?_
      refine y_nf ?_
      refine y_block ?_
      refine y_seq ?_
      refine y_region rfl rfl ?_
      refine xb_run zbs 2 rfl rfl ?_
      refine xb_end ?_
      refine y_nf ?_
      refine y_cond rfl (fun hc => ?_) (fun hc => ?_)
      · replace h := condT h hc
        refine y_seq ?_
        refine y_seq ?_
        refine y_region rfl rfl ?_
        refine xb_run zbs 5 rfl rfl ?_
        refine xb_end ?_
        refine y_nf ?_
        refine y_cond rfl (fun hc => ?_) (fun hc => ?_)
        · replace h := condT h hc
          refine y_seq ?_
          refine y_region rfl rfl ?_
          obtain ⟨r10, hf11, h⟩ := bnd h
          refine xb_call0 (ZB := zbs) 0 (.tup [.agg (Kept.cells 0 r10.1), .int .i64 r10.2]) rfl rfl rfl rfl rfl rfl rfl (f18_ok 140 _ hf11) rfl rfl rfl rfl ?_
          refine xb_run zbs 2 rfl rfl ?_
          refine xb_storeL (ZB := zbs) (c' := (Kept.cells 0 r10.1)) rfl rfl rfl rfl rfl rfl rfl rfl rfl rfl rfl ?_
          refine xb_run zbs 1 rfl rfl ?_
          refine xb_end ?_
          refine y_nf ?_
          cases h
          refine y_ret ?_
          exact ends_retB 2 rfl rfl Has.nil ⟨rfl, rfl⟩
        · replace h := condF h hc
          refine y_skip ?_
          refine y_nf ?_
          refine y_seq ?_
          refine y_region rfl rfl ?_
          refine xb_run zbs 3 rfl rfl ?_
          refine xb_storeL (ZB := zbs) (c' := [.int .i64 a1.Term, .int .i64 r1.Vote, .int .i64 r1.Snap.Index, .int .i64 r1.Snap.Term, .ls (List.map ci r1.Snap.Config.Voters) 1 0 2, .ls (List.map ci r1.Snap.Config.Learners) 1 0 2, .str r1.Snap.Data, .ls (List.map Entry.row r1.Entries) 6 3 2]) rfl rfl rfl rfl rfl rfl rfl rfl rfl rfl rfl ?_
          refine xb_end ?_
          refine y_nf ?_
          refine y_region rfl rfl ?_
          refine xb_run zbs 3 rfl rfl ?_
          refine xb_storeL (ZB := zbs) (c' := [.int .i64 a1.Term, .int .i64 a1.Vote, .int .i64 r1.Snap.Index, .int .i64 r1.Snap.Term, .ls (List.map ci r1.Snap.Config.Voters) 1 0 2, .ls (List.map ci r1.Snap.Config.Learners) 1 0 2, .str r1.Snap.Data, .ls (List.map Entry.row r1.Entries) 6 3 2]) rfl rfl rfl rfl rfl rfl rfl rfl rfl rfl rfl ?_
          refine xb_end ?_
          exact ⟨(a1.Term, a1.Vote, r1.Snap, r1.Entries), SubW.cons rfl .refl (SubW.cons rfl .refl (SubW.cons rfl .refl SubW.nil)), SubC'.cons rfl .refl (SubC'.cons rfl .refl SubC'.nil), SubC'.nil, rfl, h⟩
      · replace h := condF h hc
        refine y_seq ?_
        refine y_region rfl rfl ?_
        refine xb_run zbs 2 rfl rfl ?_
        refine xb_end ?_
        refine y_nf ?_
        refine y_cond rfl (fun hc => ?_) (fun hc => ?_)
        · replace h := condT h hc
          refine y_seq ?_
          refine y_seq ?_
          refine y_region rfl rfl ?_
          refine xb_run zbs 6 rfl rfl ?_
          refine xb_end ?_
          refine y_nf ?_
          refine y_cond rfl (fun hc => ?_) (fun hc => ?_)
          · replace h := condT h hc
            refine y_seq ?_
            refine y_region rfl rfl ?_
            obtain ⟨r12, hf13, h⟩ := bnd h
            refine xb_call0 (ZB := zbs) 0 (.tup [.agg (Kept.cells 0 r12.1), .int .i64 r12.2]) rfl rfl rfl rfl rfl rfl rfl (f18_ok 140 _ hf13) rfl rfl rfl rfl ?_
            refine xb_run zbs 2 rfl rfl ?_
            refine xb_storeL (ZB := zbs) (c' := (Kept.cells 0 r12.1)) rfl rfl rfl rfl rfl rfl rfl rfl rfl rfl rfl ?_
            refine xb_run zbs 1 rfl rfl ?_
            refine xb_end ?_
            refine y_nf ?_
            cases h
            refine y_ret ?_
            exact ends_retB 2 rfl rfl Has.nil ⟨rfl, rfl⟩
          · replace h := condF h hc
            refine y_skip ?_
            refine y_nf ?_
            refine y_seq ?_
            refine y_seq ?_
            refine y_region rfl rfl ?_
            refine xb_run zbs 2 rfl rfl ?_
            refine xb_pure rfl (pLenB rfl rfl rfl rfl rfl) rfl rfl rfl rfl ?_
            refine xb_run zbs 1 rfl rfl ?_
            refine xb_end ?_
            refine y_nf ?_
            refine y_cond rfl (fun hc => ?_) (fun hc => ?_)
            · replace h := condT h hc
              refine y_seq ?_
              refine y_region rfl rfl ?_
              obtain ⟨r14, hf15, h⟩ := bnd h
              refine xb_call0 (ZB := zbs) 0 (.tup [.agg (Kept.cells 0 r14.1), .int .i64 r14.2]) rfl rfl rfl rfl rfl rfl rfl (f18_ok 2 _ hf15) rfl rfl rfl rfl ?_
              refine xb_run zbs 2 rfl rfl ?_
              refine xb_storeL (ZB := zbs) (c' := (Kept.cells 0 r14.1)) rfl rfl rfl rfl rfl rfl rfl rfl rfl rfl rfl ?_
              refine xb_run zbs 1 rfl rfl ?_
              refine xb_end ?_
              refine y_nf ?_
              cases h
              refine y_ret ?_
              exact ends_retB 2 rfl rfl Has.nil ⟨rfl, rfl⟩
            · replace h := condF h hc
              refine y_skip ?_
              refine y_nf ?_
              refine y_region rfl rfl ?_
              refine xb_run zbs 1 rfl rfl ?_
              refine xb_look' (i := 1) (ZB := zbs) rfl rfl rfl rfl rfl rfl rfl rfl rfl ?_
              refine xb_run zbs 2 rfl rfl ?_
              obtain ⟨r16, hf17, h⟩ := bnd h
              refine xb_call0 (ZB := zbs) 1 (.agg (Entry.cells 2 r16)) rfl rfl rfl rfl rfl rfl rfl (f13_ok a1.Entry _ hf17) rfl rfl rfl rfl ?_
              refine xb_slice (ZB := zbs) (es := List.map Entry.row [r16]) 3 2 rfl rfl rfl rfl rfl rfl rfl rfl rfl rfl rfl rfl rfl rfl rfl rfl rfl ?_
              obtain ⟨x18, ha19, h⟩ := bnd h
              refine xb_app (ZB := zbs) 2 2 rfl rfl rfl rfl rfl rfl rfl rfl rfl ha19 rfl rfl rfl rfl (.inl rfl) rfl rfl rfl ?_
              refine xb_run zbs 1 rfl rfl ?_
              refine xb_pk0 ?_
              refine xb_storeL (ZB := zbs) (c' := [.int .i64 r1.Term, .int .i64 r1.Vote, .int .i64 r1.Snap.Index, .int .i64 r1.Snap.Term, .ls (List.map ci r1.Snap.Config.Voters) 1 0 2, .ls (List.map ci r1.Snap.Config.Learners) 1 0 2, .str r1.Snap.Data, .ls (List.map Entry.row x18) 6 3 2]) rfl rfl rfl rfl rfl rfl rfl rfl rfl rfl rfl ?_
              refine xb_end ?_
              exact ⟨(r1.Term, r1.Vote, r1.Snap, x18), SubW.cons rfl .refl (SubW.cons rfl .refl (SubW.cons rfl .refl SubW.nil)), SubC'.cons rfl .refl (SubC'.cons rfl .refl SubC'.nil), SubC'.nil, rfl, h⟩
        · replace h := condF h hc
          refine y_seq ?_
          refine y_region rfl rfl ?_
          refine xb_run zbs 2 rfl rfl ?_
          refine xb_end ?_
          refine y_nf ?_
          refine y_cond rfl (fun hc => ?_) (fun hc => ?_)
          · replace h := condT h hc
            refine y_seq ?_
            obtain ⟨J21, hJ21, h⟩ := jnE h
            refine y_join1 (df' := []) (fun (v20 : Bool) => [(2, .lr 2 0), (3, .lr 3 0), (4, .lr 4 0), (5, .v (.int .i64 0)), (6, .lr 6 0), (116, .v (.bool v20))]) (fun (v20 : Bool) => [(2, (Kept.cells 1 a0)), (3, (Record.cells 1 a1)), (4, [.int .i64 0, .int .i64 0, .int .i64 0, .int .i64 0, .ls (List.map ci []) 1 0 0, .ls (List.map ci []) 1 0 0, .str [], .ls (List.map Entry.row []) 6 0 0]), (6, [.int .i64 r1.Term, .int .i64 r1.Vote, .int .i64 r1.Snap.Index, .int .i64 r1.Snap.Term, .ls (List.map ci r1.Snap.Config.Voters) 1 0 2, .ls (List.map ci r1.Snap.Config.Learners) 1 0 2, .str r1.Snap.Data, .ls (List.map Entry.row r1.Entries) 6 3 2])]) (fun (v20 : Bool) => []) (fun (v20 : Bool) => J21 v20 = some y) ?_ ?_
            · refine y_region rfl rfl ?_
              refine xb_run zbs 7 rfl rfl ?_
              cases hg22 : (decide (a1.Index ≤ a0.Snap.Index)) with
              | false =>
                replace h := condF h hg22
                refine xb_run zbs 5 rfl rfl ?_
                refine xb_end ?_
                exact ⟨(decide (a1.Index > r3)), SubW.cons rfl .refl (SubW.cons rfl .refl (SubW.cons rfl .refl (SubW.cons rfl .refl (SubW.cons rfl .refl (SubW.cons rfl .refl SubW.nil))))), SubC'.cons rfl .refl (SubC'.cons rfl .refl (SubC'.cons rfl .refl (SubC'.cons rfl .refl SubC'.nil))), SubC'.nil, rfl, h⟩
              | true =>
                replace h := condT h hg22
                refine xb_run zbs 5 rfl rfl ?_
                refine xb_end ?_
                exact ⟨true, SubW.cons rfl .refl (SubW.cons rfl .refl (SubW.cons rfl .refl (SubW.cons rfl .refl (SubW.cons rfl .refl (SubW.cons rfl .refl SubW.nil))))), SubC'.cons rfl .refl (SubC'.cons rfl .refl (SubC'.cons rfl .refl (SubC'.cons rfl .refl SubC'.nil))), SubC'.nil, rfl, h⟩
            · intro v20 h
              subst hJ21
              refine y_cond rfl (fun hc => ?_) (fun hc => ?_)
              · replace h := condT h hc
                refine y_seq ?_
                refine y_region rfl rfl ?_
                obtain ⟨r23, hf24, h⟩ := bnd h
                refine xb_call0 (ZB := zbs) 0 (.tup [.agg (Kept.cells 0 r23.1), .int .i64 r23.2]) rfl rfl rfl rfl rfl rfl rfl (f18_ok 140 _ hf24) rfl rfl rfl rfl ?_
                refine xb_run zbs 2 rfl rfl ?_
                refine xb_storeL (ZB := zbs) (c' := (Kept.cells 0 r23.1)) rfl rfl rfl rfl rfl rfl rfl rfl rfl rfl rfl ?_
                refine xb_run zbs 1 rfl rfl ?_
                refine xb_end ?_
                refine y_nf ?_
                cases h
                refine y_ret ?_
                exact ends_retB 2 rfl rfl Has.nil ⟨rfl, rfl⟩
              · replace h := condF h hc
                refine y_skip ?_
                refine y_nf ?_
                refine y_region rfl rfl ?_
                refine xb_run zbs 9 rfl rfl ?_
                obtain ⟨x25, hx26, h⟩ := bnd h
                refine xb_pure rfl (pSliceB rfl rfl rfl rfl rfl (.inl ⟨rfl, rfl⟩) (.inr ⟨_, rfl⟩) hx26) rfl rfl rfl rfl ?_
                refine xb_run zbs 1 rfl rfl ?_
                refine xb_storeL (ZB := zbs) (c' := [.int .i64 r1.Term, .int .i64 r1.Vote, .int .i64 r1.Snap.Index, .int .i64 r1.Snap.Term, .ls (List.map ci r1.Snap.Config.Voters) 1 0 2, .ls (List.map ci r1.Snap.Config.Learners) 1 0 2, .str r1.Snap.Data, .ls (List.map Entry.row x25) 6 3 2]) rfl rfl rfl rfl rfl rfl rfl rfl rfl rfl rfl ?_
                refine xb_end ?_
                exact ⟨(r1.Term, r1.Vote, r1.Snap, x25), SubW.cons rfl .refl (SubW.cons rfl .refl (SubW.cons rfl .refl SubW.nil)), SubC'.cons rfl .refl (SubC'.cons rfl .refl SubC'.nil), SubC'.nil, rfl, h⟩
          · replace h := condF h hc
            refine y_seq ?_
            refine y_seq ?_
            refine y_region rfl rfl ?_
            refine xb_run zbs 7 rfl rfl ?_
            refine xb_end ?_
            refine y_nf ?_
            refine y_cond rfl (fun hc => ?_) (fun hc => ?_)
            · replace h := condT h hc
              refine y_seq ?_
              refine y_region rfl rfl ?_
              obtain ⟨r27, hf28, h⟩ := bnd h
              refine xb_call0 (ZB := zbs) 0 (.tup [.agg (Kept.cells 0 r27.1), .int .i64 r27.2]) rfl rfl rfl rfl rfl rfl rfl (f18_ok 140 _ hf28) rfl rfl rfl rfl ?_
              refine xb_run zbs 2 rfl rfl ?_
              refine xb_storeL (ZB := zbs) (c' := (Kept.cells 0 r27.1)) rfl rfl rfl rfl rfl rfl rfl rfl rfl rfl rfl ?_
              refine xb_run zbs 1 rfl rfl ?_
              refine xb_end ?_
              refine y_nf ?_
              cases h
              refine y_ret ?_
              exact ends_retB 2 rfl rfl Has.nil ⟨rfl, rfl⟩
            · replace h := condF h hc
              refine y_skip ?_
              refine y_nf ?_
              refine y_seq ?_
              refine y_region rfl rfl ?_
              refine xb_run zbs 9 rfl rfl ?_
              refine xb_end ?_
              refine y_nf ?_
              obtain ⟨J30, hJ30, h⟩ := jnE h
              refine y_join1 (df' := []) (fun (v29 : List Entry) => [(3, .lr 3 0), (4, .lr 4 0), (5, .v (.int .i64 0)), (6, .lr 6 0)]) (fun (v29 : List Entry) => [(3, (Record.cells 1 a1)), (4, [.int .i64 0, .int .i64 0, .int .i64 0, .int .i64 0, .ls (List.map ci []) 1 0 0, .ls (List.map ci []) 1 0 0, .str [], .ls (List.map Entry.row []) 6 0 0]), (6, [.int .i64 r1.Term, .int .i64 r1.Vote, .int .i64 r1.Snap.Index, .int .i64 r1.Snap.Term, .ls (List.map ci r1.Snap.Config.Voters) 1 0 2, .ls (List.map ci r1.Snap.Config.Learners) 1 0 2, .str r1.Snap.Data, .ls (List.map Entry.row v29) 6 3 2])]) (fun (v29 : List Entry) => []) (fun (v29 : List Entry) => J30 v29 = some y) ?_ ?_
              · obtain ⟨J32, hJ32, h⟩ := jnE h
                refine y_join1 (df' := []) (fun (v31 : Bool) => [(3, .lr 3 0), (4, .lr 4 0), (5, .v (.int .i64 0)), (6, .lr 6 0), (8, .v (.int .i64 (fwrap .i64 ((fwrap .i64 (a1.Snap.Index - a0.Snap.Index)) - 1)))), (49, .v (.bool v31))]) (fun (v31 : Bool) => [(3, (Record.cells 1 a1)), (4, [.int .i64 0, .int .i64 0, .int .i64 0, .int .i64 0, .ls (List.map ci []) 1 0 0, .ls (List.map ci []) 1 0 0, .str [], .ls (List.map Entry.row []) 6 0 0]), (6, [.int .i64 r1.Term, .int .i64 r1.Vote, .int .i64 r1.Snap.Index, .int .i64 r1.Snap.Term, .ls (List.map ci r1.Snap.Config.Voters) 1 0 2, .ls (List.map ci r1.Snap.Config.Learners) 1 0 2, .str r1.Snap.Data, .ls (List.map Entry.row r1.Entries) 6 3 2])]) (fun (v31 : Bool) => []) (fun (v31 : Bool) => J32 v31 = some y) ?_ ?_
                · refine y_region rfl rfl ?_
                  refine xb_run zbs 3 rfl rfl ?_
                  refine xb_pure rfl (pLenB rfl rfl rfl rfl rfl) rfl rfl rfl rfl ?_
                  refine xb_run zbs 2 rfl rfl ?_
                  cases hg33 : (decide ((fwrap .i64 ((fwrap .i64 (a1.Snap.Index - a0.Snap.Index)) - 1)) < (len a0.Entries))) with
                  | false =>
                    replace h := condF h hg33
                    refine xb_run zbs 11 rfl rfl ?_
                    refine xb_end ?_
                    exact ⟨false, SubW.cons rfl .refl (SubW.cons rfl .refl (SubW.cons rfl .refl (SubW.cons rfl .refl (SubW.cons rfl .refl (SubW.cons rfl .refl SubW.nil))))), SubC'.cons rfl .refl (SubC'.cons rfl .refl (SubC'.cons rfl .refl SubC'.nil)), SubC'.nil, rfl, h⟩
                  | true =>
                    replace h := condT h hg33
                    refine xb_run zbs 3 rfl rfl ?_
                    obtain ⟨x34, hx35, h⟩ := bnd h
                    refine xb_pure rfl (pIdxB rfl rfl rfl rfl hx35) rfl rfl rfl rfl ?_
                    refine xb_run zbs 7 rfl rfl ?_
                    refine xb_end ?_
                    exact ⟨(x34.Term == a1.Snap.Term), SubW.cons rfl .refl (SubW.cons rfl .refl (SubW.cons rfl .refl (SubW.cons rfl .refl (SubW.cons rfl .refl (SubW.cons rfl .refl SubW.nil))))), SubC'.cons rfl .refl (SubC'.cons rfl .refl (SubC'.cons rfl .refl SubC'.nil)), SubC'.nil, rfl, h⟩
                · intro v31 h
                  subst hJ32
                  refine y_cond rfl (fun hc => ?_) (fun hc => ?_)
                  · replace h := condT h hc
                    refine y_region rfl rfl ?_
                    refine xb_run zbs 4 rfl rfl ?_
                    obtain ⟨x36, hx37, h⟩ := bnd h
                    refine xb_pure rfl (pSliceB rfl rfl rfl rfl rfl (.inr ⟨_, rfl⟩) (.inl ⟨rfl, rfl⟩) hx37) rfl rfl rfl rfl ?_
                    refine xb_run zbs 1 rfl rfl ?_
                    refine xb_storeL (ZB := zbs) (c' := [.int .i64 r1.Term, .int .i64 r1.Vote, .int .i64 r1.Snap.Index, .int .i64 r1.Snap.Term, .ls (List.map ci r1.Snap.Config.Voters) 1 0 2, .ls (List.map ci r1.Snap.Config.Learners) 1 0 2, .str r1.Snap.Data, .ls (List.map Entry.row x36) 6 3 2]) rfl rfl rfl rfl rfl rfl rfl rfl rfl rfl rfl ?_
                    refine xb_end ?_
                    exact ⟨x36, SubW.cons rfl .refl (SubW.cons rfl .refl (SubW.cons rfl .refl (SubW.cons rfl .refl SubW.nil))), SubC'.cons rfl .refl (SubC'.cons rfl .refl (SubC'.cons rfl .refl SubC'.nil)), SubC'.nil, rfl, h⟩
                  · replace h := condF h hc
                    refine y_region rfl rfl ?_
                    refine xb_run zbs 1 rfl rfl ?_
                    refine xb_storeL (ZB := zbs) (c' := [.int .i64 r1.Term, .int .i64 r1.Vote, .int .i64 r1.Snap.Index, .int .i64 r1.Snap.Term, .ls (List.map ci r1.Snap.Config.Voters) 1 0 2, .ls (List.map ci r1.Snap.Config.Learners) 1 0 2, .str r1.Snap.Data, .ls (List.map Entry.row []) 6 0 0]) rfl rfl rfl rfl rfl rfl rfl rfl rfl rfl rfl ?_
                    refine xb_end ?_
                    exact ⟨[], SubW.cons rfl .refl (SubW.cons rfl .refl (SubW.cons rfl .refl (SubW.cons rfl .refl SubW.nil))), SubC'.cons rfl .refl (SubC'.cons rfl .refl (SubC'.cons rfl (.cons .refl (.cons .refl (.cons .refl (.cons .refl (.cons .refl (.cons .refl (.cons .refl (.cons .nil .nil)))))))) SubC'.nil)), SubC'.nil, rfl, h⟩
              · intro v29 h
                subst hJ30
                refine y_region rfl rfl ?_
                refine xb_run zbs 2 rfl rfl ?_
                obtain ⟨r38, hf39, h⟩ := bnd h
                refine xb_call0 (ZB := zbs) 1 (.agg (Snapshot.cells 2 r38)) rfl rfl rfl rfl rfl rfl rfl (f12_ok a1.Snap _ hf39) rfl rfl rfl rfl ?_
                refine xb_run zbs 1 rfl rfl ?_
                refine xb_storeL (ZB := zbs) (c' := [.int .i64 r1.Term, .int .i64 r1.Vote, .int .i64 r38.Index, .int .i64 r38.Term, .ls (List.map ci r38.Config.Voters) 1 0 2, .ls (List.map ci r38.Config.Learners) 1 0 2, .str r38.Data, .ls (List.map Entry.row v29) 6 3 2]) rfl rfl rfl rfl rfl rfl rfl rfl rfl rfl rfl ?_
                refine xb_end ?_
                exact ⟨(r1.Term, r1.Vote, r38, v29), SubW.cons rfl .refl (SubW.cons rfl .refl (SubW.cons rfl .refl SubW.nil)), SubC'.cons rfl .refl (SubC'.cons rfl .refl SubC'.nil), SubC'.nil, rfl, h⟩
    · intro v5 v6 v7 v8 h
      subst hJ9
      refine y_seq ?_
      refine y_region rfl rfl ?_
      refine xb_run zbs 1 rfl rfl ?_
      refine xb_storeL (ZB := zbs) (c' := [.int .i64 v5, .int .i64 v6, .int .i64 v7.Index, .int .i64 v7.Term, .ls (List.map ci v7.Config.Voters) 1 0 2, .ls (List.map ci v7.Config.Learners) 1 0 2, .str v7.Data, .ls (List.map Entry.row v8) 6 3 2]) rfl rfl rfl rfl rfl rfl rfl rfl rfl rfl rfl ?_
      refine xb_run zbs 1 rfl rfl ?_
      refine xb_end ?_
      refine y_nf ?_
      cases h
      refine y_ret ?_
      exact ends_retB 2 rfl rfl Has.nil ⟨rfl, rfl⟩
  · obtain ⟨hv, _⟩ := hq
    cases hv

/-- folkmoot/folkmootref15.Fold -/
def F8 (a0 : Kept) (a1 : Record) : Option (Kept × Int) :=
  (F17 a0).bind fun r1 => bif (!r1) then ((F18 1).bind fun r3 => some (r3.1, r3.2)) else ((F19 a1).bind fun r5 => bif (!r5) then ((F18 140).bind fun r7 => some (r7.1, r7.2)) else ((F20 a0 a1).bind fun r9 => some (r9.1, r9.2)))
theorem f8_ok (a0 : Kept) (a1 : Record) (y : Kept × Int) (h : F8 a0 a1 = some y) : CallB (evalL tis funs hints) noP 8 [.agg (Kept.cells 1 a0), .agg (Record.cells 1 a1)] [] (fun r ob => r = .ret (.tup [.agg (Kept.cells 2 y.1), .int .i64 y.2]) ∧ ob = []) := by
  refine ansB_of rfl rfl rfl rfl fun om pi hp => ?_
  unfold F8 at h
  refine y_seq ?_
  refine y_region rfl rfl ?_
  refine xb_boxL (ZB := zbs) rfl rfl rfl rfl rfl rfl rfl rfl rfl rfl rfl ?_
  refine xb_boxL (ZB := zbs) rfl rfl rfl rfl rfl rfl rfl rfl rfl rfl rfl ?_
  refine xb_allocL zb30 rfl rfl rfl rfl rfl rfl rfl rfl rfl rfl ?_
  refine xb_run zbs 1 rfl rfl ?_
  refine xb_end ?_
  refine y_nf ?_
  refine y_seq ?_
  refine y_seq ?_
  refine y_region rfl rfl ?_
  refine xb_run zbs 1 rfl rfl ?_
  obtain ⟨r1, hf2, h⟩ := bnd h
  refine xb_call0 (ZB := zbs) 1 (.bool r1) rfl rfl rfl rfl rfl rfl rfl (f17_ok a0 _ hf2) rfl rfl rfl rfl ?_
  refine xb_run zbs 1 rfl rfl ?_
  refine xb_end ?_
  refine y_nf ?_
  refine y_cond rfl (fun hc => ?_) (fun hc => ?_)
  · replace h := condT h hc
    refine y_seq ?_
    refine y_region rfl rfl ?_
    obtain ⟨r3, hf4, h⟩ := bnd h
    refine xb_call0 (ZB := zbs) 0 (.tup [.agg (Kept.cells 0 r3.1), .int .i64 r3.2]) rfl rfl rfl rfl rfl rfl rfl (f18_ok 1 _ hf4) rfl rfl rfl rfl ?_
    refine xb_run zbs 2 rfl rfl ?_
    refine xb_storeL (ZB := zbs) (c' := (Kept.cells 0 r3.1)) rfl rfl rfl rfl rfl rfl rfl rfl rfl rfl rfl ?_
    refine xb_run zbs 1 rfl rfl ?_
    refine xb_end ?_
    refine y_nf ?_
    cases h
    refine y_ret ?_
    exact ends_retB 2 rfl rfl Has.nil ⟨rfl, rfl⟩
  · replace h := condF h hc
    refine y_skip ?_
    refine y_nf ?_
    refine y_seq ?_
    refine y_seq ?_
    refine y_region rfl rfl ?_
    refine xb_run zbs 1 rfl rfl ?_
    obtain ⟨r5, hf6, h⟩ := bnd h
    refine xb_call0 (ZB := zbs) 1 (.bool r5) rfl rfl rfl rfl rfl rfl rfl (f19_ok a1 _ hf6) rfl rfl rfl rfl ?_
    refine xb_run zbs 1 rfl rfl ?_
    refine xb_end ?_
    refine y_nf ?_
    refine y_cond rfl (fun hc => ?_) (fun hc => ?_)
    · replace h := condT h hc
      refine y_seq ?_
      refine y_region rfl rfl ?_
      obtain ⟨r7, hf8, h⟩ := bnd h
      refine xb_call0 (ZB := zbs) 0 (.tup [.agg (Kept.cells 0 r7.1), .int .i64 r7.2]) rfl rfl rfl rfl rfl rfl rfl (f18_ok 140 _ hf8) rfl rfl rfl rfl ?_
      refine xb_run zbs 2 rfl rfl ?_
      refine xb_storeL (ZB := zbs) (c' := (Kept.cells 0 r7.1)) rfl rfl rfl rfl rfl rfl rfl rfl rfl rfl rfl ?_
      refine xb_run zbs 1 rfl rfl ?_
      refine xb_end ?_
      refine y_nf ?_
      cases h
      refine y_ret ?_
      exact ends_retB 2 rfl rfl Has.nil ⟨rfl, rfl⟩
    · replace h := condF h hc
      refine y_skip ?_
      refine y_nf ?_
      refine y_seq ?_
      refine y_region rfl rfl ?_
      refine xb_run zbs 2 rfl rfl ?_
      obtain ⟨r9, hf10, h⟩ := bnd h
      refine xb_call0 (ZB := zbs) 1 (.tup [.agg (Kept.cells 2 r9.1), .int .i64 r9.2]) rfl rfl rfl rfl rfl rfl rfl (f20_ok a0 a1 _ hf10) rfl rfl rfl rfl ?_
      refine xb_run zbs 2 rfl rfl ?_
      refine xb_storeL (ZB := zbs) (c' := (Kept.cells 2 r9.1)) rfl rfl rfl rfl rfl rfl rfl rfl rfl rfl rfl ?_
      refine xb_run zbs 1 rfl rfl ?_
      refine xb_end ?_
      refine y_nf ?_
      cases h
      refine y_ret ?_
      exact ends_retB 2 rfl rfl Has.nil ⟨rfl, rfl⟩

/-- folkmoot/stable.folded -/
def F15 (a0 : Kept) (a1 : Record) : Option (Kept × Int) :=
  (F30 a1).bind fun r1 => jn (jn (fun (v15 : Int) (v16 : Int) (v17 : Snapshot) (v18 : List Entry) (v19 : Record) => some ((⟨v15, v16, v17, v18⟩ : Kept), 0)) fun J20 => bif (a1.Kind == 1) then ((F35 (⟨a0, a1⟩ : Fold)).bind fun r21 => prE r21 (fun r23 => J20 r23.k.Term r23.k.Vote r23.k.Snap r23.k.Entries r23.r_) (fun v24 => bif (v24 != 0) then (some ((⟨0, 0, (⟨0, 0, (⟨[], []⟩ : Config), []⟩ : Snapshot), []⟩ : Kept), v24)) else (some ((⟨0, 0, (⟨0, 0, (⟨[], []⟩ : Config), []⟩ : Snapshot), []⟩ : Kept), v24)))) else (bif (a1.Kind == 2) then ((F36 (⟨a0, a1⟩ : Fold)).bind fun r25 => prE r25 (fun r27 => J20 r27.k.Term r27.k.Vote r27.k.Snap r27.k.Entries r27.r_) (fun v28 => bif (v28 != 0) then (some ((⟨0, 0, (⟨0, 0, (⟨[], []⟩ : Config), []⟩ : Snapshot), []⟩ : Kept), v28)) else (some ((⟨0, 0, (⟨0, 0, (⟨[], []⟩ : Config), []⟩ : Snapshot), []⟩ : Kept), v28)))) else (bif (a1.Kind == 3) then ((F37 (⟨a0, a1⟩ : Fold)).bind fun r29 => prE r29 (fun r31 => J20 r31.k.Term r31.k.Vote r31.k.Snap r31.k.Entries r31.r_) (fun v32 => bif (v32 != 0) then (some ((⟨0, 0, (⟨0, 0, (⟨[], []⟩ : Config), []⟩ : Snapshot), []⟩ : Kept), v32)) else (some ((⟨0, 0, (⟨0, 0, (⟨[], []⟩ : Config), []⟩ : Snapshot), []⟩ : Kept), v32)))) else (bif (a1.Kind == 4) then ((F38 (⟨a0, a1⟩ : Fold)).bind fun r33 => prE r33 (fun r35 => J20 r35.k.Term r35.k.Vote r35.k.Snap r35.k.Entries r35.r_) (fun v36 => bif (v36 != 0) then (some ((⟨0, 0, (⟨0, 0, (⟨[], []⟩ : Config), []⟩ : Snapshot), []⟩ : Kept), v36)) else (some ((⟨0, 0, (⟨0, 0, (⟨[], []⟩ : Config), []⟩ : Snapshot), []⟩ : Kept), v36)))) else (J20 a0.Term a0.Vote a0.Snap a0.Entries a1))))) fun J3 => (F34 a1).bind fun r4 => bif r4 then ((F33 (r1 == 0) 140).bind fun r11 => prE r11 (fun r13 => J3) (fun v14 => bif (v14 != 0) then (some ((⟨0, 0, (⟨0, 0, (⟨[], []⟩ : Config), []⟩ : Snapshot), []⟩ : Kept), v14)) else (some ((⟨0, 0, (⟨0, 0, (⟨[], []⟩ : Config), []⟩ : Snapshot), []⟩ : Kept), v14)))) else ((F33 false 140).bind fun r7 => prE r7 (fun r9 => J3) (fun v10 => bif (v10 != 0) then (some ((⟨0, 0, (⟨0, 0, (⟨[], []⟩ : Config), []⟩ : Snapshot), []⟩ : Kept), v10)) else (some ((⟨0, 0, (⟨0, 0, (⟨[], []⟩ : Config), []⟩ : Snapshot), []⟩ : Kept), v10))))
theorem f15_ok (a0 : Kept) (a1 : Record) (y : Kept × Int) (h : F15 a0 a1 = some y) : CallB (evalL tis funs hints) (fun t => Nat.beq t 70) 15 [.agg [.int .i64 a0.Term, .int .i64 a0.Vote, .int .i64 a0.Snap.Index, .int .i64 a0.Snap.Term, .ls (List.map ci a0.Snap.Config.Voters) 1 0 4722366482869645213696, .ls (List.map ci a0.Snap.Config.Learners) 1 0 4722366482869645213696, .str a0.Snap.Data, .ls (List.map Entry.row a0.Entries) 6 71 4722366482869645213696], .agg (Record.cells 1 a1)] [] (fun r ob => r = .ret (.tup [.agg [.int .i64 y.1.Term, .int .i64 y.1.Vote, .int .i64 y.1.Snap.Index, .int .i64 y.1.Snap.Term, .ls (List.map ci y.1.Snap.Config.Voters) 1 0 4722366482869645213698, .ls (List.map ci y.1.Snap.Config.Learners) 1 0 4722366482869645213698, .str y.1.Snap.Data, .ls (List.map Entry.row y.1.Entries) 6 71 4722366482869645213698], .int .i64 y.2]) ∧ ob = []) := by
  refine ansB_of rfl rfl rfl rfl fun om pi hp => ?_
  unfold F15 at h
  refine y_seq ?_
  refine y_region rfl rfl ?_
  refine xb_boxL (ZB := zbs) rfl rfl rfl rfl rfl rfl rfl rfl rfl rfl rfl ?_
  refine xb_boxL (ZB := zbs) rfl rfl rfl rfl rfl rfl rfl rfl rfl rfl rfl ?_
  refine xb_newO 2 zb30 rfl rfl rfl rfl rfl rfl rfl rfl rfl rfl rfl ?_
  refine xb_newO 3 zb39 rfl rfl rfl rfl rfl rfl rfl rfl rfl rfl rfl ?_
  refine xb_end ?_
  refine y_nf ?_
  refine y_seq ?_
  refine y_region rfl rfl ?_
  refine xb_run zbs 1 rfl rfl ?_
  refine xb_defer (ZB := zbs) rfl rfl rfl rfl rfl rfl ?_
  refine xb_end ?_
  refine y_nf ?_
  refine y_seq ?_
  refine y_region rfl rfl ?_
  refine xb_defer (ZB := zbs) rfl rfl rfl rfl rfl rfl ?_
  refine xb_end ?_
  refine y_nf ?_
  refine y_seq ?_
  refine y_region rfl rfl ?_
  refine xb_run zbs 3 rfl rfl ?_
  refine xb_newB (ZB := zbs) 4 rfl rfl rfl rfl rfl rfl rfl rfl rfl rfl rfl rfl rfl ?_
  refine xb_run zbs 1 rfl rfl ?_
  refine xb_end ?_
  refine y_nf ?_
  refine y_seq ?_
  refine y_region rfl rfl ?_
  refine xb_run zbs 1 rfl rfl ?_
  obtain ⟨r1, hf2, h⟩ := bnd h
  refine xb_call0 (ZB := zbs) 1 (.tup [.any, .int .i64 r1]) rfl rfl rfl rfl rfl rfl rfl (f30_ok a1 _ hf2) rfl rfl rfl rfl ?_
  refine xb_run zbs 5 rfl rfl ?_
  refine xb_end ?_
  refine y_nf ?_
  obtain ⟨J3, hJ3, h⟩ := jnE h
  refine y_join0 (df' := [(32, [.ptr 3 0]), (31, [.ptr 3 0, .ptr 2 0])]) [(3, .lr 3 0), (4, .v (.ptr 2 0)), (5, .v (.ptr 3 0)), (6, .v (.ptr 4 0))] [(3, (Record.cells 1 a1))] ([(4, [.int .i64 a0.Term, .int .i64 a0.Vote, .int .i64 a0.Snap.Index, .int .i64 a0.Snap.Term, .ls (List.map ci a0.Snap.Config.Voters) 1 0 4722366482869645213696, .ls (List.map ci a0.Snap.Config.Learners) 1 0 4722366482869645213696, .str a0.Snap.Data, .ls (List.map Entry.row a0.Entries) 6 71 4722366482869645213696, .int .i64 a1.Kind, .int .i64 a1.Term, .int .i64 a1.Vote, .int .i64 a1.Entry.Index, .int .i64 a1.Entry.Term, .int .i64 a1.Entry.Kind, .ls (List.map ci a1.Entry.Config.Voters) 1 0 1, .ls (List.map ci a1.Entry.Config.Learners) 1 0 1, .str a1.Entry.Data, .int .i64 a1.Index, .int .i64 a1.Snap.Index, .int .i64 a1.Snap.Term, .ls (List.map ci a1.Snap.Config.Voters) 1 0 1, .ls (List.map ci a1.Snap.Config.Learners) 1 0 1, .str a1.Snap.Data]), (3, [.int .i64 0]), (2, [.int .i64 0, .int .i64 0, .int .i64 0, .int .i64 0, .ls (List.map ci []) 1 0 0, .ls (List.map ci []) 1 0 0, .str [], .ls (List.map Entry.row []) 6 0 0])]) (J3 = some y) ?_ ?_
  · refine y_region rfl rfl ?_
    refine xb_run zbs 1 rfl rfl ?_
    obtain ⟨r4, hf5, h⟩ := bnd h
    refine xb_call0 (ZB := zbs) 1 (.bool r4) rfl rfl rfl rfl rfl rfl rfl (f34_ok a1 _ hf5) rfl rfl rfl rfl ?_
    refine xb_run zbs 1 rfl rfl ?_
    cases hg6 : r4 with
    | false =>
      replace h := condF h hg6
      refine xb_run zbs 3 rfl rfl ?_
      obtain ⟨r7, hf8, h⟩ := bnd h
      cases r7 with
      | ret r9 =>
        replace h := prR h
        refine xb_call (ZB := zbs) (P := noP) ⟨[], [], [], 0, 1⟩ rfl rfl rfl rfl rfl rfl rfl rfl rfl rfl (f33_ok false 140 _ hf8) rfl rfl rfl (fun v obr hq => ?_) (fun v obr hq => ?_)
        · obtain ⟨hv, rfl⟩ := hq
          cases hv
          refine xb_re (v' := .tup []) (lo' := [(2, [.int .i64 a0.Term, .int .i64 a0.Vote, .int .i64 a0.Snap.Index, .int .i64 a0.Snap.Term, .ls (List.map ci a0.Snap.Config.Voters) 1 0 4722366482869645213696, .ls (List.map ci a0.Snap.Config.Learners) 1 0 4722366482869645213696, .str a0.Snap.Data, .ls (List.map Entry.row a0.Entries) 6 71 4722366482869645213696]), (3, (Record.cells 1 a1))]) (ob' := [(4, [.int .i64 a0.Term, .int .i64 a0.Vote, .int .i64 a0.Snap.Index, .int .i64 a0.Snap.Term, .ls (List.map ci a0.Snap.Config.Voters) 1 0 4722366482869645213696, .ls (List.map ci a0.Snap.Config.Learners) 1 0 4722366482869645213696, .str a0.Snap.Data, .ls (List.map Entry.row a0.Entries) 6 71 4722366482869645213696, .int .i64 a1.Kind, .int .i64 a1.Term, .int .i64 a1.Vote, .int .i64 a1.Entry.Index, .int .i64 a1.Entry.Term, .int .i64 a1.Entry.Kind, .ls (List.map ci a1.Entry.Config.Voters) 1 0 1, .ls (List.map ci a1.Entry.Config.Learners) 1 0 1, .str a1.Entry.Data, .int .i64 a1.Index, .int .i64 a1.Snap.Index, .int .i64 a1.Snap.Term, .ls (List.map ci a1.Snap.Config.Voters) 1 0 1, .ls (List.map ci a1.Snap.Config.Learners) 1 0 1, .str a1.Snap.Data]), (3, [.int .i64 0]), (2, [.int .i64 0, .int .i64 0, .int .i64 0, .int .i64 0, .ls (List.map ci []) 1 0 0, .ls (List.map ci []) 1 0 0, .str [], .ls (List.map Entry.row []) 6 0 0])]) rfl rfl rfl ?_
          refine xb_end ?_
          exact ⟨(), SubW.cons rfl .refl (SubW.cons rfl .refl (SubW.cons rfl .refl (SubW.cons rfl .refl SubW.nil))), SubC'.cons rfl .refl SubC'.nil, SubC'.cons rfl .refl (SubC'.cons rfl .refl (SubC'.cons rfl .refl SubC'.nil)), rfl, h⟩
        · obtain ⟨hv, _⟩ := hq
          cases hv
      | pan v10 =>
        replace h := prP h
        refine xb_call (ZB := zbs) (P := noP) ⟨[], [], [], 0, 1⟩ rfl rfl rfl rfl rfl rfl rfl rfl rfl rfl (f33_ok false 140 _ hf8) rfl rfl rfl (fun v obr hq => ?_) (fun v obr hq => ?_)
        · obtain ⟨hv, _⟩ := hq
          cases hv
        · obtain ⟨hv, rfl⟩ := hq
          cases hv
          refine ends_lvB rfl ?_
          refine lv_cons rfl rfl rfl rfl ?_
          refine z_nf ?_
          refine z_seq ?_
          refine z_region rfl ?_
          refine xs'_recP rfl rfl rfl ?_
          refine xs'_run zbs 1 rfl rfl ?_
          refine xs'_end ?_
          refine z_nf ?_
          refine z_seq ?_
          refine z_region rfl ?_
          refine xs'_run zbs 2 rfl rfl ?_
          refine xs'_end ?_
          refine z_nf ?_
          refine z_cond rfl (fun _ => ?_) (fun hc => absurd hc (by decide))
          refine z_region rfl ?_
          refine xs'_run zbs 5 rfl rfl ?_
          refine xs'_storeO (ZB := zbs) (c' := [.int .i64 v10]) rfl rfl rfl rfl rfl rfl rfl rfl rfl (.inl rfl) ?_
          refine xs'_end ?_
          refine ⟨rfl, rfl, ⟨_, rfl⟩, ?_⟩
          refine lv_cons rfl rfl rfl rfl ?_
          refine z_nf ?_
          refine z_seq ?_
          refine z_region rfl ?_
          refine xs'_run zbs 2 rfl rfl ?_
          refine xs'_end ?_
          refine z_nf ?_
          refine z_cond rfl (fun hc => ?_) (fun hc => ?_)
          · replace h := condT h hc
            refine z_region rfl ?_
            refine xs'_run zbs 1 rfl rfl ?_
            refine xs'_storeO (ZB := zbs) (c' := [.int .i64 0, .int .i64 0, .int .i64 0, .int .i64 0, .ls (List.map ci []) 1 0 0, .ls (List.map ci []) 1 0 0, .str [], .ls (List.map Entry.row []) 6 0 0]) rfl rfl rfl rfl rfl rfl rfl rfl rfl (.inl rfl) ?_
            refine xs'_end ?_
            refine ⟨rfl, rfl, ⟨_, rfl⟩, ?_⟩
            cases h
            exact lv_retW (l' := [.agg [.int .i64 0, .int .i64 0, .int .i64 0, .int .i64 0, .ls (List.map ci []) 1 0 0, .ls (List.map ci []) 1 0 0, .str [], .ls (List.map Entry.row []) 6 71 4722366482869645213698], .int .i64 v10]) 4722366482869645213698 rfl (WkL.cons (.a (.cons .refl (.cons .refl (.cons .refl (.cons .refl (.cons .refl (.cons .refl (.cons .refl (.cons .nil .nil))))))))) (WkL.cons (.k .refl) WkL.nil)) Has.nil ⟨rfl, rfl⟩
          · replace h := condF h hc
            refine z_skip ?_
            refine ⟨rfl, rfl, ⟨_, rfl⟩, ?_⟩
            cases h
            exact lv_retW (l' := [.agg [.int .i64 0, .int .i64 0, .int .i64 0, .int .i64 0, .ls (List.map ci []) 1 0 0, .ls (List.map ci []) 1 0 0, .str [], .ls (List.map Entry.row []) 6 71 4722366482869645213698], .int .i64 v10]) 4722366482869645213698 rfl (WkL.cons (.a (.cons .refl (.cons .refl (.cons .refl (.cons .refl (.cons .refl (.cons .refl (.cons .refl (.cons .nil .nil))))))))) (WkL.cons (.k .refl) WkL.nil)) Has.nil ⟨rfl, rfl⟩
    | true =>
      replace h := condT h hg6
      refine xb_run zbs 3 rfl rfl ?_
      obtain ⟨r11, hf12, h⟩ := bnd h
      cases r11 with
      | ret r13 =>
        replace h := prR h
        refine xb_call (ZB := zbs) (P := noP) ⟨[], [], [], 0, 1⟩ rfl rfl rfl rfl rfl rfl rfl rfl rfl rfl (f33_ok (r1 == 0) 140 _ hf12) rfl rfl rfl (fun v obr hq => ?_) (fun v obr hq => ?_)
        · obtain ⟨hv, rfl⟩ := hq
          cases hv
          refine xb_re (v' := .tup []) (lo' := [(2, [.int .i64 a0.Term, .int .i64 a0.Vote, .int .i64 a0.Snap.Index, .int .i64 a0.Snap.Term, .ls (List.map ci a0.Snap.Config.Voters) 1 0 4722366482869645213696, .ls (List.map ci a0.Snap.Config.Learners) 1 0 4722366482869645213696, .str a0.Snap.Data, .ls (List.map Entry.row a0.Entries) 6 71 4722366482869645213696]), (3, (Record.cells 1 a1))]) (ob' := [(4, [.int .i64 a0.Term, .int .i64 a0.Vote, .int .i64 a0.Snap.Index, .int .i64 a0.Snap.Term, .ls (List.map ci a0.Snap.Config.Voters) 1 0 4722366482869645213696, .ls (List.map ci a0.Snap.Config.Learners) 1 0 4722366482869645213696, .str a0.Snap.Data, .ls (List.map Entry.row a0.Entries) 6 71 4722366482869645213696, .int .i64 a1.Kind, .int .i64 a1.Term, .int .i64 a1.Vote, .int .i64 a1.Entry.Index, .int .i64 a1.Entry.Term, .int .i64 a1.Entry.Kind, .ls (List.map ci a1.Entry.Config.Voters) 1 0 1, .ls (List.map ci a1.Entry.Config.Learners) 1 0 1, .str a1.Entry.Data, .int .i64 a1.Index, .int .i64 a1.Snap.Index, .int .i64 a1.Snap.Term, .ls (List.map ci a1.Snap.Config.Voters) 1 0 1, .ls (List.map ci a1.Snap.Config.Learners) 1 0 1, .str a1.Snap.Data]), (3, [.int .i64 0]), (2, [.int .i64 0, .int .i64 0, .int .i64 0, .int .i64 0, .ls (List.map ci []) 1 0 0, .ls (List.map ci []) 1 0 0, .str [], .ls (List.map Entry.row []) 6 0 0])]) rfl rfl rfl ?_
          refine xb_end ?_
          exact ⟨(), SubW.cons rfl .refl (SubW.cons rfl .refl (SubW.cons rfl .refl (SubW.cons rfl .refl SubW.nil))), SubC'.cons rfl .refl SubC'.nil, SubC'.cons rfl .refl (SubC'.cons rfl .refl (SubC'.cons rfl .refl SubC'.nil)), rfl, h⟩
        · obtain ⟨hv, _⟩ := hq
          cases hv
      | pan v14 =>
        replace h := prP h
        refine xb_call (ZB := zbs) (P := noP) ⟨[], [], [], 0, 1⟩ rfl rfl rfl rfl rfl rfl rfl rfl rfl rfl (f33_ok (r1 == 0) 140 _ hf12) rfl rfl rfl (fun v obr hq => ?_) (fun v obr hq => ?_)
        · obtain ⟨hv, _⟩ := hq
          cases hv
        · obtain ⟨hv, rfl⟩ := hq
          cases hv
          refine ends_lvB rfl ?_
          refine lv_cons rfl rfl rfl rfl ?_
          refine z_nf ?_
          refine z_seq ?_
          refine z_region rfl ?_
          refine xs'_recP rfl rfl rfl ?_
          refine xs'_run zbs 1 rfl rfl ?_
          refine xs'_end ?_
          refine z_nf ?_
          refine z_seq ?_
          refine z_region rfl ?_
          refine xs'_run zbs 2 rfl rfl ?_
          refine xs'_end ?_
          refine z_nf ?_
          refine z_cond rfl (fun _ => ?_) (fun hc => absurd hc (by decide))
          refine z_region rfl ?_
          refine xs'_run zbs 5 rfl rfl ?_
          refine xs'_storeO (ZB := zbs) (c' := [.int .i64 v14]) rfl rfl rfl rfl rfl rfl rfl rfl rfl (.inl rfl) ?_
          refine xs'_end ?_
          refine ⟨rfl, rfl, ⟨_, rfl⟩, ?_⟩
          refine lv_cons rfl rfl rfl rfl ?_
          refine z_nf ?_
          refine z_seq ?_
          refine z_region rfl ?_
          refine xs'_run zbs 2 rfl rfl ?_
          refine xs'_end ?_
          refine z_nf ?_
          refine z_cond rfl (fun hc => ?_) (fun hc => ?_)
          · replace h := condT h hc
            refine z_region rfl ?_
            refine xs'_run zbs 1 rfl rfl ?_
            refine xs'_storeO (ZB := zbs) (c' := [.int .i64 0, .int .i64 0, .int .i64 0, .int .i64 0, .ls (List.map ci []) 1 0 0, .ls (List.map ci []) 1 0 0, .str [], .ls (List.map Entry.row []) 6 0 0]) rfl rfl rfl rfl rfl rfl rfl rfl rfl (.inl rfl) ?_
            refine xs'_end ?_
            refine ⟨rfl, rfl, ⟨_, rfl⟩, ?_⟩
            cases h
            exact lv_retW (l' := [.agg [.int .i64 0, .int .i64 0, .int .i64 0, .int .i64 0, .ls (List.map ci []) 1 0 0, .ls (List.map ci []) 1 0 0, .str [], .ls (List.map Entry.row []) 6 71 4722366482869645213698], .int .i64 v14]) 4722366482869645213698 rfl (WkL.cons (.a (.cons .refl (.cons .refl (.cons .refl (.cons .refl (.cons .refl (.cons .refl (.cons .refl (.cons .nil .nil))))))))) (WkL.cons (.k .refl) WkL.nil)) Has.nil ⟨rfl, rfl⟩
          · replace h := condF h hc
            refine z_skip ?_
            refine ⟨rfl, rfl, ⟨_, rfl⟩, ?_⟩
            cases h
            exact lv_retW (l' := [.agg [.int .i64 0, .int .i64 0, .int .i64 0, .int .i64 0, .ls (List.map ci []) 1 0 0, .ls (List.map ci []) 1 0 0, .str [], .ls (List.map Entry.row []) 6 71 4722366482869645213698], .int .i64 v14]) 4722366482869645213698 rfl (WkL.cons (.a (.cons .refl (.cons .refl (.cons .refl (.cons .refl (.cons .refl (.cons .refl (.cons .refl (.cons .nil .nil))))))))) (WkL.cons (.k .refl) WkL.nil)) Has.nil ⟨rfl, rfl⟩
  · intro h
    subst hJ3
    obtain ⟨J20, hJ20, h⟩ := jnE h
    refine y_join5 (df' := [(32, [.ptr 3 0]), (31, [.ptr 3 0, .ptr 2 0])]) (fun (v15 : Int) (v16 : Int) (v17 : Snapshot) (v18 : List Entry) (v19 : Record) => [(4, .v (.ptr 2 0)), (5, .v (.ptr 3 0)), (6, .v (.ptr 4 0))]) (fun (v15 : Int) (v16 : Int) (v17 : Snapshot) (v18 : List Entry) (v19 : Record) => []) (fun (v15 : Int) (v16 : Int) (v17 : Snapshot) (v18 : List Entry) (v19 : Record) => [(4, [.int .i64 v15, .int .i64 v16, .int .i64 v17.Index, .int .i64 v17.Term, .ls (List.map ci v17.Config.Voters) 1 0 4722366482869645213698, .ls (List.map ci v17.Config.Learners) 1 0 4722366482869645213698, .str v17.Data, .ls (List.map Entry.row v18) 6 71 4722366482869645213698, .int .i64 v19.Kind, .int .i64 v19.Term, .int .i64 v19.Vote, .int .i64 v19.Entry.Index, .int .i64 v19.Entry.Term, .int .i64 v19.Entry.Kind, .ls (List.map ci v19.Entry.Config.Voters) 1 0 4722366482869645213699, .ls (List.map ci v19.Entry.Config.Learners) 1 0 4722366482869645213699, .str v19.Entry.Data, .int .i64 v19.Index, .int .i64 v19.Snap.Index, .int .i64 v19.Snap.Term, .ls (List.map ci v19.Snap.Config.Voters) 1 0 4722366482869645213699, .ls (List.map ci v19.Snap.Config.Learners) 1 0 4722366482869645213699, .str v19.Snap.Data]), (3, [.int .i64 0]), (2, [.int .i64 0, .int .i64 0, .int .i64 0, .int .i64 0, .ls (List.map ci []) 1 0 0, .ls (List.map ci []) 1 0 0, .str [], .ls (List.map Entry.row []) 6 0 0])]) (fun (v15 : Int) (v16 : Int) (v17 : Snapshot) (v18 : List Entry) (v19 : Record) => J20 v15 v16 v17 v18 v19 = some y) ?_ ?_
    · refine y_seq ?_
      refine y_region rfl rfl ?_
      refine xb_run zbs 2 rfl rfl ?_
      refine xb_end ?_
      refine y_nf ?_
      refine y_block ?_
      refine y_seq ?_
      refine y_region rfl rfl ?_
      refine xb_run zbs 2 rfl rfl ?_
      refine xb_end ?_
      refine y_nf ?_
      refine y_cond rfl (fun hc => ?_) (fun hc => ?_)
      · replace h := condT h hc
        refine y_region rfl rfl ?_
        refine xb_run zbs 1 rfl rfl ?_
        obtain ⟨r21, hf22, h⟩ := bnd h
        cases r21 with
        | ret r23 =>
          replace h := prR h
          refine xb_call (ZB := zbs) (P := (fun t => Nat.beq t 1064)) ⟨[(70, 70), (72, 72)], [(4, 64)], [], 4722366482869645213697, 1⟩ rfl rfl rfl rfl rfl rfl rfl rfl rfl rfl (f35_ok (⟨a0, a1⟩ : Fold) _ hf22) rfl rfl rfl (fun v obr hq => ?_) (fun v obr hq => ?_)
          · obtain ⟨hv, rfl⟩ := hq
            cases hv
            refine xb_re (v' := .tup []) (lo' := [(3, (Record.cells 1 a1))]) (ob' := [(4, [.int .i64 r23.k.Term, .int .i64 r23.k.Vote, .int .i64 r23.k.Snap.Index, .int .i64 r23.k.Snap.Term, .ls (List.map ci r23.k.Snap.Config.Voters) 1 0 4722366482869645213696, .ls (List.map ci r23.k.Snap.Config.Learners) 1 0 4722366482869645213696, .str r23.k.Snap.Data, .ls (List.map Entry.row r23.k.Entries) 6 71 4722366482869645213696, .int .i64 r23.r_.Kind, .int .i64 r23.r_.Term, .int .i64 r23.r_.Vote, .int .i64 r23.r_.Entry.Index, .int .i64 r23.r_.Entry.Term, .int .i64 r23.r_.Entry.Kind, .ls (List.map ci r23.r_.Entry.Config.Voters) 1 0 4722366482869645213699, .ls (List.map ci r23.r_.Entry.Config.Learners) 1 0 4722366482869645213699, .str r23.r_.Entry.Data, .int .i64 r23.r_.Index, .int .i64 r23.r_.Snap.Index, .int .i64 r23.r_.Snap.Term, .ls (List.map ci r23.r_.Snap.Config.Voters) 1 0 4722366482869645213699, .ls (List.map ci r23.r_.Snap.Config.Learners) 1 0 4722366482869645213699, .str r23.r_.Snap.Data]), (3, [.int .i64 0]), (2, [.int .i64 0, .int .i64 0, .int .i64 0, .int .i64 0, .ls (List.map ci []) 1 0 0, .ls (List.map ci []) 1 0 0, .str [], .ls (List.map Entry.row []) 6 0 0])]) rfl rfl rfl ?_
            refine xb_end ?_
            exact ⟨(r23.k.Term, r23.k.Vote, r23.k.Snap, r23.k.Entries, r23.r_), SubW.cons rfl .refl (SubW.cons rfl .refl (SubW.cons rfl .refl SubW.nil)), SubC'.nil, SubC'.cons rfl (.cons .refl (.cons .refl (.cons .refl (.cons .refl (.cons (.mask rfl) (.cons (.mask rfl) (.cons .refl (.cons (.mask rfl) (.cons .refl (.cons .refl (.cons .refl (.cons .refl (.cons .refl (.cons .refl (.cons .refl (.cons .refl (.cons .refl (.cons .refl (.cons .refl (.cons .refl (.cons .refl (.cons .refl (.cons .refl .nil))))))))))))))))))))))) (SubC'.cons rfl .refl (SubC'.cons rfl .refl SubC'.nil)), rfl, h⟩
          · obtain ⟨hv, _⟩ := hq
            cases hv
        | pan v24 =>
          replace h := prP h
          refine xb_call (ZB := zbs) (P := (fun t => Nat.beq t 1064)) ⟨[(70, 70), (72, 72)], [(4, 64)], [], 4722366482869645213697, 1⟩ rfl rfl rfl rfl rfl rfl rfl rfl rfl rfl (f35_ok (⟨a0, a1⟩ : Fold) _ hf22) rfl rfl rfl (fun v obr hq => ?_) (fun v obr hq => ?_)
          · obtain ⟨hv, _⟩ := hq
            cases hv
          · obtain ⟨hv, rfl⟩ := hq
            cases hv
            refine ends_lvB rfl ?_
            refine lv_cons rfl rfl rfl rfl ?_
            refine z_nf ?_
            refine z_seq ?_
            refine z_region rfl ?_
            refine xs'_recP rfl rfl rfl ?_
            refine xs'_run zbs 1 rfl rfl ?_
            refine xs'_end ?_
            refine z_nf ?_
            refine z_seq ?_
            refine z_region rfl ?_
            refine xs'_run zbs 2 rfl rfl ?_
            refine xs'_end ?_
            refine z_nf ?_
            refine z_cond rfl (fun _ => ?_) (fun hc => absurd hc (by decide))
            refine z_region rfl ?_
            refine xs'_run zbs 5 rfl rfl ?_
            refine xs'_storeO (ZB := zbs) (c' := [.int .i64 v24]) rfl rfl rfl rfl rfl rfl rfl rfl rfl (.inl rfl) ?_
            refine xs'_end ?_
            refine ⟨rfl, rfl, ⟨_, rfl⟩, ?_⟩
            refine lv_cons rfl rfl rfl rfl ?_
            refine z_nf ?_
            refine z_seq ?_
            refine z_region rfl ?_
            refine xs'_run zbs 2 rfl rfl ?_
            refine xs'_end ?_
            refine z_nf ?_
            refine z_cond rfl (fun hc => ?_) (fun hc => ?_)
            · replace h := condT h hc
              refine z_region rfl ?_
              refine xs'_run zbs 1 rfl rfl ?_
              refine xs'_storeO (ZB := zbs) (c' := [.int .i64 0, .int .i64 0, .int .i64 0, .int .i64 0, .ls (List.map ci []) 1 0 0, .ls (List.map ci []) 1 0 0, .str [], .ls (List.map Entry.row []) 6 0 0]) rfl rfl rfl rfl rfl rfl rfl rfl rfl (.inl rfl) ?_
              refine xs'_end ?_
              refine ⟨rfl, rfl, ⟨_, rfl⟩, ?_⟩
              cases h
              exact lv_retW (l' := [.agg [.int .i64 0, .int .i64 0, .int .i64 0, .int .i64 0, .ls (List.map ci []) 1 0 0, .ls (List.map ci []) 1 0 0, .str [], .ls (List.map Entry.row []) 6 71 4722366482869645213698], .int .i64 v24]) 4722366482869645213698 rfl (WkL.cons (.a (.cons .refl (.cons .refl (.cons .refl (.cons .refl (.cons .refl (.cons .refl (.cons .refl (.cons .nil .nil))))))))) (WkL.cons (.k .refl) WkL.nil)) Has.nil ⟨rfl, rfl⟩
            · replace h := condF h hc
              refine z_skip ?_
              refine ⟨rfl, rfl, ⟨_, rfl⟩, ?_⟩
              cases h
              exact lv_retW (l' := [.agg [.int .i64 0, .int .i64 0, .int .i64 0, .int .i64 0, .ls (List.map ci []) 1 0 0, .ls (List.map ci []) 1 0 0, .str [], .ls (List.map Entry.row []) 6 71 4722366482869645213698], .int .i64 v24]) 4722366482869645213698 rfl (WkL.cons (.a (.cons .refl (.cons .refl (.cons .refl (.cons .refl (.cons .refl (.cons .refl (.cons .refl (.cons .nil .nil))))))))) (WkL.cons (.k .refl) WkL.nil)) Has.nil ⟨rfl, rfl⟩
      · replace h := condF h hc
        refine y_seq ?_
        refine y_region rfl rfl ?_
        refine xb_run zbs 2 rfl rfl ?_
        refine xb_end ?_
        refine y_nf ?_
        refine y_cond rfl (fun hc => ?_) (fun hc => ?_)
        · replace h := condT h hc
          refine y_region rfl rfl ?_
          refine xb_run zbs 1 rfl rfl ?_
          obtain ⟨r25, hf26, h⟩ := bnd h
          cases r25 with
          | ret r27 =>
            replace h := prR h
            refine xb_call (ZB := zbs) (P := (fun t => Nat.beq t 70 || Nat.beq t 1064)) ⟨[(70, 70), (72, 72)], [(4, 64)], [], 4722366482869645213697, 1⟩ rfl rfl rfl rfl rfl rfl rfl rfl rfl rfl (f36_ok (⟨a0, a1⟩ : Fold) _ hf26) rfl rfl rfl (fun v obr hq => ?_) (fun v obr hq => ?_)
            · obtain ⟨hv, rfl⟩ := hq
              cases hv
              refine xb_re (v' := .tup []) (lo' := [(3, (Record.cells 1 a1))]) (ob' := [(4, [.int .i64 r27.k.Term, .int .i64 r27.k.Vote, .int .i64 r27.k.Snap.Index, .int .i64 r27.k.Snap.Term, .ls (List.map ci r27.k.Snap.Config.Voters) 1 0 4722366482869645213696, .ls (List.map ci r27.k.Snap.Config.Learners) 1 0 4722366482869645213696, .str r27.k.Snap.Data, .ls (List.map Entry.row r27.k.Entries) 6 71 4722366482869645213698, .int .i64 r27.r_.Kind, .int .i64 r27.r_.Term, .int .i64 r27.r_.Vote, .int .i64 r27.r_.Entry.Index, .int .i64 r27.r_.Entry.Term, .int .i64 r27.r_.Entry.Kind, .ls (List.map ci r27.r_.Entry.Config.Voters) 1 0 4722366482869645213699, .ls (List.map ci r27.r_.Entry.Config.Learners) 1 0 4722366482869645213699, .str r27.r_.Entry.Data, .int .i64 r27.r_.Index, .int .i64 r27.r_.Snap.Index, .int .i64 r27.r_.Snap.Term, .ls (List.map ci r27.r_.Snap.Config.Voters) 1 0 4722366482869645213699, .ls (List.map ci r27.r_.Snap.Config.Learners) 1 0 4722366482869645213699, .str r27.r_.Snap.Data]), (3, [.int .i64 0]), (2, [.int .i64 0, .int .i64 0, .int .i64 0, .int .i64 0, .ls (List.map ci []) 1 0 0, .ls (List.map ci []) 1 0 0, .str [], .ls (List.map Entry.row []) 6 0 0])]) rfl rfl rfl ?_
              refine xb_end ?_
              exact ⟨(r27.k.Term, r27.k.Vote, r27.k.Snap, r27.k.Entries, r27.r_), SubW.cons rfl .refl (SubW.cons rfl .refl (SubW.cons rfl .refl SubW.nil)), SubC'.nil, SubC'.cons rfl (.cons .refl (.cons .refl (.cons .refl (.cons .refl (.cons (.mask rfl) (.cons (.mask rfl) (.cons .refl (.cons .refl (.cons .refl (.cons .refl (.cons .refl (.cons .refl (.cons .refl (.cons .refl (.cons .refl (.cons .refl (.cons .refl (.cons .refl (.cons .refl (.cons .refl (.cons .refl (.cons .refl (.cons .refl .nil))))))))))))))))))))))) (SubC'.cons rfl .refl (SubC'.cons rfl .refl SubC'.nil)), rfl, h⟩
            · obtain ⟨hv, _⟩ := hq
              cases hv
          | pan v28 =>
            replace h := prP h
            refine xb_call (ZB := zbs) (P := (fun t => Nat.beq t 70 || Nat.beq t 1064)) ⟨[(70, 70), (72, 72)], [(4, 64)], [], 4722366482869645213697, 1⟩ rfl rfl rfl rfl rfl rfl rfl rfl rfl rfl (f36_ok (⟨a0, a1⟩ : Fold) _ hf26) rfl rfl rfl (fun v obr hq => ?_) (fun v obr hq => ?_)
            · obtain ⟨hv, _⟩ := hq
              cases hv
            · obtain ⟨hv, rfl⟩ := hq
              cases hv
              refine ends_lvB rfl ?_
              refine lv_cons rfl rfl rfl rfl ?_
              refine z_nf ?_
              refine z_seq ?_
              refine z_region rfl ?_
              refine xs'_recP rfl rfl rfl ?_
              refine xs'_run zbs 1 rfl rfl ?_
              refine xs'_end ?_
              refine z_nf ?_
              refine z_seq ?_
              refine z_region rfl ?_
              refine xs'_run zbs 2 rfl rfl ?_
              refine xs'_end ?_
              refine z_nf ?_
              refine z_cond rfl (fun _ => ?_) (fun hc => absurd hc (by decide))
              refine z_region rfl ?_
              refine xs'_run zbs 5 rfl rfl ?_
              refine xs'_storeO (ZB := zbs) (c' := [.int .i64 v28]) rfl rfl rfl rfl rfl rfl rfl rfl rfl (.inl rfl) ?_
              refine xs'_end ?_
              refine ⟨rfl, rfl, ⟨_, rfl⟩, ?_⟩
              refine lv_cons rfl rfl rfl rfl ?_
              refine z_nf ?_
              refine z_seq ?_
              refine z_region rfl ?_
              refine xs'_run zbs 2 rfl rfl ?_
              refine xs'_end ?_
              refine z_nf ?_
              refine z_cond rfl (fun hc => ?_) (fun hc => ?_)
              · replace h := condT h hc
                refine z_region rfl ?_
                refine xs'_run zbs 1 rfl rfl ?_
                refine xs'_storeO (ZB := zbs) (c' := [.int .i64 0, .int .i64 0, .int .i64 0, .int .i64 0, .ls (List.map ci []) 1 0 0, .ls (List.map ci []) 1 0 0, .str [], .ls (List.map Entry.row []) 6 0 0]) rfl rfl rfl rfl rfl rfl rfl rfl rfl (.inl rfl) ?_
                refine xs'_end ?_
                refine ⟨rfl, rfl, ⟨_, rfl⟩, ?_⟩
                cases h
                exact lv_retW (l' := [.agg [.int .i64 0, .int .i64 0, .int .i64 0, .int .i64 0, .ls (List.map ci []) 1 0 0, .ls (List.map ci []) 1 0 0, .str [], .ls (List.map Entry.row []) 6 71 4722366482869645213698], .int .i64 v28]) 4722366482869645213698 rfl (WkL.cons (.a (.cons .refl (.cons .refl (.cons .refl (.cons .refl (.cons .refl (.cons .refl (.cons .refl (.cons .nil .nil))))))))) (WkL.cons (.k .refl) WkL.nil)) Has.nil ⟨rfl, rfl⟩
              · replace h := condF h hc
                refine z_skip ?_
                refine ⟨rfl, rfl, ⟨_, rfl⟩, ?_⟩
                cases h
                exact lv_retW (l' := [.agg [.int .i64 0, .int .i64 0, .int .i64 0, .int .i64 0, .ls (List.map ci []) 1 0 0, .ls (List.map ci []) 1 0 0, .str [], .ls (List.map Entry.row []) 6 71 4722366482869645213698], .int .i64 v28]) 4722366482869645213698 rfl (WkL.cons (.a (.cons .refl (.cons .refl (.cons .refl (.cons .refl (.cons .refl (.cons .refl (.cons .refl (.cons .nil .nil))))))))) (WkL.cons (.k .refl) WkL.nil)) Has.nil ⟨rfl, rfl⟩
        · replace h := condF h hc
          refine y_seq ?_
          refine y_region rfl rfl ?_
          refine xb_run zbs 2 rfl rfl ?_
          refine xb_end ?_
          refine y_nf ?_
          refine y_cond rfl (fun hc => ?_) (fun hc => ?_)
          · replace h := condT h hc
            refine y_region rfl rfl ?_
            refine xb_run zbs 1 rfl rfl ?_
            obtain ⟨r29, hf30, h⟩ := bnd h
            cases r29 with
            | ret r31 =>
              replace h := prR h
              refine xb_call (ZB := zbs) (P := (fun t => Nat.beq t 1064)) ⟨[(70, 70), (72, 72)], [(4, 64)], [], 4722366482869645213697, 1⟩ rfl rfl rfl rfl rfl rfl rfl rfl rfl rfl (f37_ok (⟨a0, a1⟩ : Fold) _ hf30) rfl rfl rfl (fun v obr hq => ?_) (fun v obr hq => ?_)
              · obtain ⟨hv, rfl⟩ := hq
                cases hv
                refine xb_re (v' := .tup []) (lo' := [(3, (Record.cells 1 a1))]) (ob' := [(4, [.int .i64 r31.k.Term, .int .i64 r31.k.Vote, .int .i64 r31.k.Snap.Index, .int .i64 r31.k.Snap.Term, .ls (List.map ci r31.k.Snap.Config.Voters) 1 0 4722366482869645213696, .ls (List.map ci r31.k.Snap.Config.Learners) 1 0 4722366482869645213696, .str r31.k.Snap.Data, .ls (List.map Entry.row r31.k.Entries) 6 71 4722366482869645213696, .int .i64 r31.r_.Kind, .int .i64 r31.r_.Term, .int .i64 r31.r_.Vote, .int .i64 r31.r_.Entry.Index, .int .i64 r31.r_.Entry.Term, .int .i64 r31.r_.Entry.Kind, .ls (List.map ci r31.r_.Entry.Config.Voters) 1 0 4722366482869645213699, .ls (List.map ci r31.r_.Entry.Config.Learners) 1 0 4722366482869645213699, .str r31.r_.Entry.Data, .int .i64 r31.r_.Index, .int .i64 r31.r_.Snap.Index, .int .i64 r31.r_.Snap.Term, .ls (List.map ci r31.r_.Snap.Config.Voters) 1 0 4722366482869645213699, .ls (List.map ci r31.r_.Snap.Config.Learners) 1 0 4722366482869645213699, .str r31.r_.Snap.Data]), (3, [.int .i64 0]), (2, [.int .i64 0, .int .i64 0, .int .i64 0, .int .i64 0, .ls (List.map ci []) 1 0 0, .ls (List.map ci []) 1 0 0, .str [], .ls (List.map Entry.row []) 6 0 0])]) rfl rfl rfl ?_
                refine xb_end ?_
                exact ⟨(r31.k.Term, r31.k.Vote, r31.k.Snap, r31.k.Entries, r31.r_), SubW.cons rfl .refl (SubW.cons rfl .refl (SubW.cons rfl .refl SubW.nil)), SubC'.nil, SubC'.cons rfl (.cons .refl (.cons .refl (.cons .refl (.cons .refl (.cons (.mask rfl) (.cons (.mask rfl) (.cons .refl (.cons (.mask rfl) (.cons .refl (.cons .refl (.cons .refl (.cons .refl (.cons .refl (.cons .refl (.cons .refl (.cons .refl (.cons .refl (.cons .refl (.cons .refl (.cons .refl (.cons .refl (.cons .refl (.cons .refl .nil))))))))))))))))))))))) (SubC'.cons rfl .refl (SubC'.cons rfl .refl SubC'.nil)), rfl, h⟩
              · obtain ⟨hv, _⟩ := hq
                cases hv
            | pan v32 =>
              replace h := prP h
              refine xb_call (ZB := zbs) (P := (fun t => Nat.beq t 1064)) ⟨[(70, 70), (72, 72)], [(4, 64)], [], 4722366482869645213697, 1⟩ rfl rfl rfl rfl rfl rfl rfl rfl rfl rfl (f37_ok (⟨a0, a1⟩ : Fold) _ hf30) rfl rfl rfl (fun v obr hq => ?_) (fun v obr hq => ?_)
              · obtain ⟨hv, _⟩ := hq
                cases hv
              · obtain ⟨hv, rfl⟩ := hq
                cases hv
                refine ends_lvB rfl ?_
                refine lv_cons rfl rfl rfl rfl ?_
                refine z_nf ?_
                refine z_seq ?_
                refine z_region rfl ?_
                refine xs'_recP rfl rfl rfl ?_
                refine xs'_run zbs 1 rfl rfl ?_
                refine xs'_end ?_
                refine z_nf ?_
                refine z_seq ?_
                refine z_region rfl ?_
                refine xs'_run zbs 2 rfl rfl ?_
                refine xs'_end ?_
                refine z_nf ?_
                refine z_cond rfl (fun _ => ?_) (fun hc => absurd hc (by decide))
                refine z_region rfl ?_
                refine xs'_run zbs 5 rfl rfl ?_
                refine xs'_storeO (ZB := zbs) (c' := [.int .i64 v32]) rfl rfl rfl rfl rfl rfl rfl rfl rfl (.inl rfl) ?_
                refine xs'_end ?_
                refine ⟨rfl, rfl, ⟨_, rfl⟩, ?_⟩
                refine lv_cons rfl rfl rfl rfl ?_
                refine z_nf ?_
                refine z_seq ?_
                refine z_region rfl ?_
                refine xs'_run zbs 2 rfl rfl ?_
                refine xs'_end ?_
                refine z_nf ?_
                refine z_cond rfl (fun hc => ?_) (fun hc => ?_)
                · replace h := condT h hc
                  refine z_region rfl ?_
                  refine xs'_run zbs 1 rfl rfl ?_
                  refine xs'_storeO (ZB := zbs) (c' := [.int .i64 0, .int .i64 0, .int .i64 0, .int .i64 0, .ls (List.map ci []) 1 0 0, .ls (List.map ci []) 1 0 0, .str [], .ls (List.map Entry.row []) 6 0 0]) rfl rfl rfl rfl rfl rfl rfl rfl rfl (.inl rfl) ?_
                  refine xs'_end ?_
                  refine ⟨rfl, rfl, ⟨_, rfl⟩, ?_⟩
                  cases h
                  exact lv_retW (l' := [.agg [.int .i64 0, .int .i64 0, .int .i64 0, .int .i64 0, .ls (List.map ci []) 1 0 0, .ls (List.map ci []) 1 0 0, .str [], .ls (List.map Entry.row []) 6 71 4722366482869645213698], .int .i64 v32]) 4722366482869645213698 rfl (WkL.cons (.a (.cons .refl (.cons .refl (.cons .refl (.cons .refl (.cons .refl (.cons .refl (.cons .refl (.cons .nil .nil))))))))) (WkL.cons (.k .refl) WkL.nil)) Has.nil ⟨rfl, rfl⟩
                · replace h := condF h hc
                  refine z_skip ?_
                  refine ⟨rfl, rfl, ⟨_, rfl⟩, ?_⟩
                  cases h
                  exact lv_retW (l' := [.agg [.int .i64 0, .int .i64 0, .int .i64 0, .int .i64 0, .ls (List.map ci []) 1 0 0, .ls (List.map ci []) 1 0 0, .str [], .ls (List.map Entry.row []) 6 71 4722366482869645213698], .int .i64 v32]) 4722366482869645213698 rfl (WkL.cons (.a (.cons .refl (.cons .refl (.cons .refl (.cons .refl (.cons .refl (.cons .refl (.cons .refl (.cons .nil .nil))))))))) (WkL.cons (.k .refl) WkL.nil)) Has.nil ⟨rfl, rfl⟩
          · replace h := condF h hc
            refine y_seq ?_
            refine y_region rfl rfl ?_
            refine xb_run zbs 2 rfl rfl ?_
            refine xb_end ?_
            refine y_nf ?_
            refine y_cond rfl (fun hc => ?_) (fun hc => ?_)
            · replace h := condT h hc
              refine y_region rfl rfl ?_
              refine xb_run zbs 1 rfl rfl ?_
              obtain ⟨r33, hf34, h⟩ := bnd h
              cases r33 with
              | ret r35 =>
                replace h := prR h
                refine xb_call (ZB := zbs) (P := (fun t => Nat.beq t 1064)) ⟨[(70, 70), (72, 72)], [(4, 64)], [], 4722366482869645213697, 1⟩ rfl rfl rfl rfl rfl rfl rfl rfl rfl rfl (f38_ok (⟨a0, a1⟩ : Fold) _ hf34) rfl rfl rfl (fun v obr hq => ?_) (fun v obr hq => ?_)
                · obtain ⟨hv, rfl⟩ := hq
                  cases hv
                  refine xb_re (v' := .tup []) (lo' := [(3, (Record.cells 1 a1))]) (ob' := [(4, [.int .i64 r35.k.Term, .int .i64 r35.k.Vote, .int .i64 r35.k.Snap.Index, .int .i64 r35.k.Snap.Term, .ls (List.map ci r35.k.Snap.Config.Voters) 1 0 2, .ls (List.map ci r35.k.Snap.Config.Learners) 1 0 2, .str r35.k.Snap.Data, .ls (List.map Entry.row r35.k.Entries) 6 71 4722366482869645213696, .int .i64 r35.r_.Kind, .int .i64 r35.r_.Term, .int .i64 r35.r_.Vote, .int .i64 r35.r_.Entry.Index, .int .i64 r35.r_.Entry.Term, .int .i64 r35.r_.Entry.Kind, .ls (List.map ci r35.r_.Entry.Config.Voters) 1 0 4722366482869645213699, .ls (List.map ci r35.r_.Entry.Config.Learners) 1 0 4722366482869645213699, .str r35.r_.Entry.Data, .int .i64 r35.r_.Index, .int .i64 r35.r_.Snap.Index, .int .i64 r35.r_.Snap.Term, .ls (List.map ci r35.r_.Snap.Config.Voters) 1 0 4722366482869645213699, .ls (List.map ci r35.r_.Snap.Config.Learners) 1 0 4722366482869645213699, .str r35.r_.Snap.Data]), (3, [.int .i64 0]), (2, [.int .i64 0, .int .i64 0, .int .i64 0, .int .i64 0, .ls (List.map ci []) 1 0 0, .ls (List.map ci []) 1 0 0, .str [], .ls (List.map Entry.row []) 6 0 0])]) rfl rfl rfl ?_
                  refine xb_end ?_
                  exact ⟨(r35.k.Term, r35.k.Vote, r35.k.Snap, r35.k.Entries, r35.r_), SubW.cons rfl .refl (SubW.cons rfl .refl (SubW.cons rfl .refl SubW.nil)), SubC'.nil, SubC'.cons rfl (.cons .refl (.cons .refl (.cons .refl (.cons .refl (.cons (.mask rfl) (.cons (.mask rfl) (.cons .refl (.cons (.mask rfl) (.cons .refl (.cons .refl (.cons .refl (.cons .refl (.cons .refl (.cons .refl (.cons .refl (.cons .refl (.cons .refl (.cons .refl (.cons .refl (.cons .refl (.cons .refl (.cons .refl (.cons .refl .nil))))))))))))))))))))))) (SubC'.cons rfl .refl (SubC'.cons rfl .refl SubC'.nil)), rfl, h⟩
                · obtain ⟨hv, _⟩ := hq
                  cases hv
              | pan v36 =>
                replace h := prP h
                refine xb_call (ZB := zbs) (P := (fun t => Nat.beq t 1064)) ⟨[(70, 70), (72, 72)], [(4, 64)], [], 4722366482869645213697, 1⟩ rfl rfl rfl rfl rfl rfl rfl rfl rfl rfl (f38_ok (⟨a0, a1⟩ : Fold) _ hf34) rfl rfl rfl (fun v obr hq => ?_) (fun v obr hq => ?_)
                · obtain ⟨hv, _⟩ := hq
                  cases hv
                · obtain ⟨hv, rfl⟩ := hq
                  cases hv
                  refine ends_lvB rfl ?_
                  refine lv_cons rfl rfl rfl rfl ?_
                  refine z_nf ?_
                  refine z_seq ?_
                  refine z_region rfl ?_
                  refine xs'_recP rfl rfl rfl ?_
                  refine xs'_run zbs 1 rfl rfl ?_
                  refine xs'_end ?_
                  refine z_nf ?_
                  refine z_seq ?_
                  refine z_region rfl ?_
                  refine xs'_run zbs 2 rfl rfl ?_
                  refine xs'_end ?_
                  refine z_nf ?_
                  refine z_cond rfl (fun _ => ?_) (fun hc => absurd hc (by decide))
                  refine z_region rfl ?_
                  refine xs'_run zbs 5 rfl rfl ?_
                  refine xs'_storeO (ZB := zbs) (c' := [.int .i64 v36]) rfl rfl rfl rfl rfl rfl rfl rfl rfl (.inl rfl) ?_
                  refine xs'_end ?_
                  refine ⟨rfl, rfl, ⟨_, rfl⟩, ?_⟩
                  refine lv_cons rfl rfl rfl rfl ?_
                  refine z_nf ?_
                  refine z_seq ?_
                  refine z_region rfl ?_
                  refine xs'_run zbs 2 rfl rfl ?_
                  refine xs'_end ?_
                  refine z_nf ?_
                  refine z_cond rfl (fun hc => ?_) (fun hc => ?_)
                  · replace h := condT h hc
                    refine z_region rfl ?_
                    refine xs'_run zbs 1 rfl rfl ?_
                    refine xs'_storeO (ZB := zbs) (c' := [.int .i64 0, .int .i64 0, .int .i64 0, .int .i64 0, .ls (List.map ci []) 1 0 0, .ls (List.map ci []) 1 0 0, .str [], .ls (List.map Entry.row []) 6 0 0]) rfl rfl rfl rfl rfl rfl rfl rfl rfl (.inl rfl) ?_
                    refine xs'_end ?_
                    refine ⟨rfl, rfl, ⟨_, rfl⟩, ?_⟩
                    cases h
                    exact lv_retW (l' := [.agg [.int .i64 0, .int .i64 0, .int .i64 0, .int .i64 0, .ls (List.map ci []) 1 0 0, .ls (List.map ci []) 1 0 0, .str [], .ls (List.map Entry.row []) 6 71 4722366482869645213698], .int .i64 v36]) 4722366482869645213698 rfl (WkL.cons (.a (.cons .refl (.cons .refl (.cons .refl (.cons .refl (.cons .refl (.cons .refl (.cons .refl (.cons .nil .nil))))))))) (WkL.cons (.k .refl) WkL.nil)) Has.nil ⟨rfl, rfl⟩
                  · replace h := condF h hc
                    refine z_skip ?_
                    refine ⟨rfl, rfl, ⟨_, rfl⟩, ?_⟩
                    cases h
                    exact lv_retW (l' := [.agg [.int .i64 0, .int .i64 0, .int .i64 0, .int .i64 0, .ls (List.map ci []) 1 0 0, .ls (List.map ci []) 1 0 0, .str [], .ls (List.map Entry.row []) 6 71 4722366482869645213698], .int .i64 v36]) 4722366482869645213698 rfl (WkL.cons (.a (.cons .refl (.cons .refl (.cons .refl (.cons .refl (.cons .refl (.cons .refl (.cons .refl (.cons .nil .nil))))))))) (WkL.cons (.k .refl) WkL.nil)) Has.nil ⟨rfl, rfl⟩
            · replace h := condF h hc
              refine y_skip ?_
              exact ⟨(a0.Term, a0.Vote, a0.Snap, a0.Entries, a1), SubW.cons rfl .refl (SubW.cons rfl .refl (SubW.cons rfl .refl SubW.nil)), SubC'.nil, SubC'.cons rfl (.cons .refl (.cons .refl (.cons .refl (.cons .refl (.cons (.mask rfl) (.cons (.mask rfl) (.cons .refl (.cons (.mask rfl) (.cons .refl (.cons .refl (.cons .refl (.cons .refl (.cons .refl (.cons .refl (.cons (.mask rfl) (.cons (.mask rfl) (.cons .refl (.cons .refl (.cons .refl (.cons .refl (.cons (.mask rfl) (.cons (.mask rfl) (.cons .refl .nil))))))))))))))))))))))) (SubC'.cons rfl .refl (SubC'.cons rfl .refl SubC'.nil)), rfl, h⟩
    · intro v15 v16 v17 v18 v19 h
      subst hJ20
      refine y_seq ?_
      refine y_region rfl rfl ?_
      refine xb_run zbs 4 rfl rfl ?_
      refine xb_storeO (ZB := zbs) (c' := [.int .i64 v15, .int .i64 v16, .int .i64 v17.Index, .int .i64 v17.Term, .ls (List.map ci v17.Config.Voters) 1 0 4722366482869645213698, .ls (List.map ci v17.Config.Learners) 1 0 4722366482869645213698, .str v17.Data, .ls (List.map Entry.row v18) 6 71 4722366482869645213698]) rfl rfl rfl rfl rfl rfl rfl rfl rfl (.inl rfl) rfl ?_
      refine xb_storeO (ZB := zbs) (c' := [.int .i64 0]) rfl rfl rfl rfl rfl rfl rfl rfl rfl (.inl rfl) rfl ?_
      refine xb_end ?_
      refine y_nf ?_
      refine y_ret ?_
      refine ends_lvB rfl ?_
      refine lv_cons rfl rfl rfl rfl ?_
      refine z_nf ?_
      refine z_seq ?_
      refine z_region rfl ?_
      refine xs'_recN rfl rfl rfl ?_
      refine xs'_run zbs 1 rfl rfl ?_
      refine xs'_end ?_
      refine z_nf ?_
      refine z_seq ?_
      refine z_region rfl ?_
      refine xs'_run zbs 2 rfl rfl ?_
      refine xs'_end ?_
      refine z_nf ?_
      refine z_cond rfl (fun hc => absurd hc (by decide)) (fun _ => ?_)
      refine z_skip ?_
      refine ⟨rfl, rfl, ⟨_, rfl⟩, ?_⟩
      refine lv_cons rfl rfl rfl rfl ?_
      refine z_nf ?_
      refine z_seq ?_
      refine z_region rfl ?_
      refine xs'_run zbs 2 rfl rfl ?_
      refine xs'_end ?_
      refine z_nf ?_
      refine z_cond rfl (fun hc => absurd hc (by decide)) (fun _ => ?_)
      refine z_skip ?_
      refine ⟨rfl, rfl, ⟨_, rfl⟩, ?_⟩
      cases h
      exact lv_ret 4722366482869645213698 rfl Has.nil ⟨rfl, rfl⟩

/-- folkmoot/stable.Fold -/
def F7 (a0 : Kept) (a1 : Record) : Option (Kept × Int) :=
  (F14 a0).bind fun r1 => bif (!r1) then (some ((⟨0, 0, (⟨0, 0, (⟨[], []⟩ : Config), []⟩ : Snapshot), []⟩ : Kept), 1)) else ((F16 a0).bind fun r3 => (F15 r3 a1).bind fun r5 => some (r5.1, r5.2))
theorem f7_ok (a0 : Kept) (a1 : Record) (y : Kept × Int) (h : F7 a0 a1 = some y) : CallB (evalL tis funs hints) noP 7 [.agg (Kept.cells 1 a0), .agg (Record.cells 1 a1)] [] (fun r ob => r = .ret (.tup [.agg (Kept.cells 2 y.1), .int .i64 y.2]) ∧ ob = []) := by
  refine ansB_of rfl rfl rfl rfl fun om pi hp => ?_
  unfold F7 at h
  refine y_seq ?_
  refine y_region rfl rfl ?_
  refine xb_boxL (ZB := zbs) rfl rfl rfl rfl rfl rfl rfl rfl rfl rfl rfl ?_
  refine xb_boxL (ZB := zbs) rfl rfl rfl rfl rfl rfl rfl rfl rfl rfl rfl ?_
  refine xb_allocL zb30 rfl rfl rfl rfl rfl rfl rfl rfl rfl rfl ?_
  refine xb_run zbs 1 rfl rfl ?_
  refine xb_end ?_
  refine y_nf ?_
  refine y_seq ?_
  refine y_seq ?_
  refine y_region rfl rfl ?_
  refine xb_run zbs 1 rfl rfl ?_
  obtain ⟨r1, hf2, h⟩ := bnd h
  refine xb_call0 (ZB := zbs) 1 (.bool r1) rfl rfl rfl rfl rfl rfl rfl (f14_ok a0 _ hf2) rfl rfl rfl rfl ?_
  refine xb_run zbs 1 rfl rfl ?_
  refine xb_end ?_
  refine y_nf ?_
  refine y_cond rfl (fun hc => ?_) (fun hc => ?_)
  · replace h := condT h hc
    refine y_seq ?_
    refine y_region rfl rfl ?_
    refine xb_run zbs 1 rfl rfl ?_
    refine xb_storeL (ZB := zbs) (c' := [.int .i64 0, .int .i64 0, .int .i64 0, .int .i64 0, .ls (List.map ci []) 1 0 0, .ls (List.map ci []) 1 0 0, .str [], .ls (List.map Entry.row []) 6 0 0]) rfl rfl rfl rfl rfl rfl rfl rfl rfl rfl rfl ?_
    refine xb_run zbs 1 rfl rfl ?_
    refine xb_end ?_
    refine y_nf ?_
    cases h
    refine y_ret ?_
    exact ends_retB 2 rfl rfl Has.nil ⟨rfl, rfl⟩
  · replace h := condF h hc
    refine y_skip ?_
    refine y_nf ?_
    refine y_seq ?_
    refine y_region rfl rfl ?_
    refine xb_run zbs 1 rfl rfl ?_
    refine xb_look' (i := 2) (ZB := zbs) rfl rfl rfl rfl rfl rfl rfl rfl rfl ?_
    obtain ⟨r3, hf4, h⟩ := bnd h
    refine xb_call (ZB := zbs) (P := (fun t => Nat.beq t 87)) ⟨[(2, 87)], [], [], 1, 1⟩ rfl rfl rfl rfl rfl rfl rfl rfl rfl rfl (f16_ok a0 _ hf4) rfl rfl rfl (fun v obr hq => ?_) (fun v obr hq => ?_)
    · obtain ⟨hv, rfl⟩ := hq
      cases hv
      refine xb_re (v' := .agg [.int .i64 r3.Term, .int .i64 r3.Vote, .int .i64 r3.Snap.Index, .int .i64 r3.Snap.Term, .ls (List.map ci r3.Snap.Config.Voters) 1 0 2, .ls (List.map ci r3.Snap.Config.Learners) 1 0 2, .str r3.Snap.Data, .ls (List.map Entry.row r3.Entries) 6 3 2]) (lo' := [(2, (Kept.cells 1 a0)), (3, (Record.cells 1 a1)), (4, [.int .i64 0, .int .i64 0, .int .i64 0, .int .i64 0, .ls (List.map ci []) 1 0 0, .ls (List.map ci []) 1 0 0, .str [], .ls (List.map Entry.row []) 6 0 0])]) (ob' := []) rfl rfl rfl ?_
      obtain ⟨r5, hf6, h⟩ := bnd h
      refine xb_call (ZB := zbs) (P := (fun t => Nat.beq t 70)) ⟨[(2, 70), (1, 72)], [], [], 3, 1⟩ rfl rfl rfl rfl rfl rfl rfl rfl rfl rfl (f15_ok r3 a1 _ hf6) rfl rfl rfl (fun v obr hq => ?_) (fun v obr hq => ?_)
      · obtain ⟨hv, rfl⟩ := hq
        cases hv
        refine xb_re (v' := .tup [.agg [.int .i64 r5.1.Term, .int .i64 r5.1.Vote, .int .i64 r5.1.Snap.Index, .int .i64 r5.1.Snap.Term, .ls (List.map ci r5.1.Snap.Config.Voters) 1 0 2, .ls (List.map ci r5.1.Snap.Config.Learners) 1 0 2, .str r5.1.Snap.Data, .ls (List.map Entry.row r5.1.Entries) 6 3 2], .int .i64 r5.2]) (lo' := [(2, (Kept.cells 1 a0)), (3, (Record.cells 1 a1)), (4, [.int .i64 0, .int .i64 0, .int .i64 0, .int .i64 0, .ls (List.map ci []) 1 0 0, .ls (List.map ci []) 1 0 0, .str [], .ls (List.map Entry.row []) 6 0 0])]) (ob' := []) rfl rfl rfl ?_
        refine xb_run zbs 2 rfl rfl ?_
        refine xb_pk0 ?_
        refine xb_storeL (ZB := zbs) (c' := [.int .i64 r5.1.Term, .int .i64 r5.1.Vote, .int .i64 r5.1.Snap.Index, .int .i64 r5.1.Snap.Term, .ls (List.map ci r5.1.Snap.Config.Voters) 1 0 2, .ls (List.map ci r5.1.Snap.Config.Learners) 1 0 2, .str r5.1.Snap.Data, .ls (List.map Entry.row r5.1.Entries) 6 3 2]) rfl rfl rfl rfl rfl rfl rfl rfl rfl rfl rfl ?_
        refine xb_run zbs 1 rfl rfl ?_
        refine xb_end ?_
        refine y_nf ?_
        cases h
        refine y_ret ?_
        exact ends_retB 2 rfl rfl Has.nil ⟨rfl, rfl⟩
      · obtain ⟨hv, _⟩ := hq
        cases hv
    · obtain ⟨hv, _⟩ := hq
      cases hv

/-- folkmoot/folkmootlaw15.folds -/
def F10  : Option (Bool) :=
  (F23 ).bind fun r1 => (F7 (⟨0, 0, (⟨0, 0, (⟨[], []⟩ : Config), []⟩ : Snapshot), []⟩ : Kept) r1).bind fun r3 => (F24 1).bind fun r5 => (F7 r3.1 r5).bind fun r7 => (F24 2).bind fun r9 => (F7 r7.1 r9).bind fun r11 => (F7 r11.1 (⟨3, 0, 0, (⟨0, 0, 0, (⟨[], []⟩ : Config), []⟩ : Entry), 2, (⟨0, 0, (⟨[], []⟩ : Config), []⟩ : Snapshot)⟩ : Record)).bind fun r13 => (F24 3).bind fun r15 => (F7 r13.1 r15).bind fun r17 => jn (fun (v19 : Bool) => some v19) fun J20 => bif (r3.2 == 0) then (bif (r7.2 == 0) then (bif (r11.2 == 0) then (bif (r13.2 == 0) then (bif (r13.1.Term == 2) then (bif (r13.1.Vote == 1) then (bif ((len r11.1.Entries) == 2) then (bif ((len r13.1.Entries) == 1) then (J20 (r17.2 == 140)) else (J20 false)) else (J20 false)) else (J20 false)) else (J20 false)) else (J20 false)) else (J20 false)) else (J20 false)) else (J20 false)
theorem f10_ok  (y : Bool) (h : F10  = some y) : CallB (evalL tis funs hints) noP 10 [] [] (fun r ob => r = .ret (.bool y) ∧ ob = []) := by
  refine ansB_of rfl rfl rfl rfl fun om pi hp => ?_
  unfold F10 at h
  refine y_seq ?_
  refine y_region rfl rfl ?_
  refine xb_run zbs 1 rfl rfl ?_
  refine xb_end ?_
  refine y_nf ?_
  refine y_seq ?_
  refine y_region rfl rfl ?_
  refine xb_run zbs 1 rfl rfl ?_
  obtain ⟨r1, hf2, h⟩ := bnd h
  refine xb_call0 (ZB := zbs) 0 (.agg (Record.cells 0 r1)) rfl rfl rfl rfl rfl rfl rfl (f23_ok  _ hf2) rfl rfl rfl rfl ?_
  obtain ⟨r3, hf4, h⟩ := bnd h
  refine xb_call0 (ZB := zbs) 0 (.tup [.agg (Kept.cells 2 r3.1), .int .i64 r3.2]) rfl rfl rfl rfl rfl rfl rfl (f7_ok (⟨0, 0, (⟨0, 0, (⟨[], []⟩ : Config), []⟩ : Snapshot), []⟩ : Kept) r1 _ hf4) rfl rfl rfl rfl ?_
  refine xb_run zbs 3 rfl rfl ?_
  refine xb_allocL zb30 rfl rfl rfl rfl rfl rfl rfl rfl rfl rfl ?_
  refine xb_storeL (ZB := zbs) (c' := (Kept.cells 2 r3.1)) rfl rfl rfl rfl rfl rfl rfl rfl rfl rfl rfl ?_
  refine xb_run zbs 1 rfl rfl ?_
  refine xb_end ?_
  refine y_nf ?_
  refine y_seq ?_
  refine y_region rfl rfl ?_
  refine xb_look' (i := 0) (ZB := zbs) rfl rfl rfl rfl rfl rfl rfl rfl rfl ?_
  refine xb_allocL zb30 rfl rfl rfl rfl rfl rfl rfl rfl rfl rfl ?_
  obtain ⟨r5, hf6, h⟩ := bnd h
  refine xb_call0 (ZB := zbs) 0 (.agg (Record.cells 0 r5)) rfl rfl rfl rfl rfl rfl rfl (f24_ok 1 _ hf6) rfl rfl rfl rfl ?_
  obtain ⟨r7, hf8, h⟩ := bnd h
  refine xb_call0 (ZB := zbs) 2 (.tup [.agg (Kept.cells 2 r7.1), .int .i64 r7.2]) rfl rfl rfl rfl rfl rfl rfl (f7_ok r3.1 r5 _ hf8) rfl rfl rfl rfl ?_
  refine xb_run zbs 3 rfl rfl ?_
  refine xb_pk0 ?_
  refine xb_storeL (ZB := zbs) (c' := (Kept.cells 2 r7.1)) rfl rfl rfl rfl rfl rfl rfl rfl rfl rfl rfl ?_
  refine xb_run zbs 1 rfl rfl ?_
  refine xb_end ?_
  refine y_nf ?_
  refine y_seq ?_
  refine y_region rfl rfl ?_
  refine xb_look' (i := 0) (ZB := zbs) rfl rfl rfl rfl rfl rfl rfl rfl rfl ?_
  refine xb_allocL zb30 rfl rfl rfl rfl rfl rfl rfl rfl rfl rfl ?_
  obtain ⟨r9, hf10, h⟩ := bnd h
  refine xb_call0 (ZB := zbs) 0 (.agg (Record.cells 0 r9)) rfl rfl rfl rfl rfl rfl rfl (f24_ok 2 _ hf10) rfl rfl rfl rfl ?_
  obtain ⟨r11, hf12, h⟩ := bnd h
  refine xb_call0 (ZB := zbs) 2 (.tup [.agg (Kept.cells 2 r11.1), .int .i64 r11.2]) rfl rfl rfl rfl rfl rfl rfl (f7_ok r7.1 r9 _ hf12) rfl rfl rfl rfl ?_
  refine xb_run zbs 3 rfl rfl ?_
  refine xb_pk0 ?_
  refine xb_storeL (ZB := zbs) (c' := (Kept.cells 2 r11.1)) rfl rfl rfl rfl rfl rfl rfl rfl rfl rfl rfl ?_
  refine xb_run zbs 1 rfl rfl ?_
  refine xb_end ?_
  refine y_nf ?_
  refine y_seq ?_
  refine y_region rfl rfl ?_
  refine xb_run zbs 2 rfl rfl ?_
  obtain ⟨r13, hf14, h⟩ := bnd h
  refine xb_call0 (ZB := zbs) 2 (.tup [.agg (Kept.cells 2 r13.1), .int .i64 r13.2]) rfl rfl rfl rfl rfl rfl rfl (f7_ok r11.1 (⟨3, 0, 0, (⟨0, 0, 0, (⟨[], []⟩ : Config), []⟩ : Entry), 2, (⟨0, 0, (⟨[], []⟩ : Config), []⟩ : Snapshot)⟩ : Record) _ hf14) rfl rfl rfl rfl ?_
  refine xb_run zbs 3 rfl rfl ?_
  refine xb_allocL zb30 rfl rfl rfl rfl rfl rfl rfl rfl rfl rfl ?_
  refine xb_storeL (ZB := zbs) (c' := (Kept.cells 2 r13.1)) rfl rfl rfl rfl rfl rfl rfl rfl rfl rfl rfl ?_
  refine xb_run zbs 1 rfl rfl ?_
  refine xb_end ?_
  refine y_nf ?_
  refine y_seq ?_
  refine y_region rfl rfl ?_
  refine xb_look' (i := 0) (ZB := zbs) rfl rfl rfl rfl rfl rfl rfl rfl rfl ?_
  refine xb_allocL zb30 rfl rfl rfl rfl rfl rfl rfl rfl rfl rfl ?_
  obtain ⟨r15, hf16, h⟩ := bnd h
  refine xb_call0 (ZB := zbs) 0 (.agg (Record.cells 0 r15)) rfl rfl rfl rfl rfl rfl rfl (f24_ok 3 _ hf16) rfl rfl rfl rfl ?_
  obtain ⟨r17, hf18, h⟩ := bnd h
  refine xb_call0 (ZB := zbs) 2 (.tup [.agg (Kept.cells 2 r17.1), .int .i64 r17.2]) rfl rfl rfl rfl rfl rfl rfl (f7_ok r13.1 r15 _ hf18) rfl rfl rfl rfl ?_
  refine xb_run zbs 3 rfl rfl ?_
  refine xb_pk0 ?_
  refine xb_storeL (ZB := zbs) (c' := (Kept.cells 2 r17.1)) rfl rfl rfl rfl rfl rfl rfl rfl rfl rfl rfl ?_
  refine xb_run zbs 1 rfl rfl ?_
  refine xb_end ?_
  refine y_nf ?_
  obtain ⟨J20, hJ20, h⟩ := jnE h
  refine y_join1 (df' := []) (fun (v19 : Bool) => [(0, .v (.bool v19))]) (fun (v19 : Bool) => []) (fun (v19 : Bool) => []) (fun (v19 : Bool) => J20 v19 = some y) ?_ ?_
  · refine y_region rfl rfl ?_
    refine xb_run zbs 3 rfl rfl ?_
    cases hg21 : (r3.2 == 0) with
    | false =>
      replace h := condF h hg21
      refine xb_run zbs 38 rfl rfl ?_
      refine xb_end ?_
      exact ⟨false, SubW.cons rfl .refl SubW.nil, SubC'.nil, SubC'.nil, rfl, h⟩
    | true =>
      replace h := condT h hg21
      refine xb_run zbs 4 rfl rfl ?_
      cases hg22 : (r7.2 == 0) with
      | false =>
        replace h := condF h hg22
        refine xb_run zbs 34 rfl rfl ?_
        refine xb_end ?_
        exact ⟨false, SubW.cons rfl .refl SubW.nil, SubC'.nil, SubC'.nil, rfl, h⟩
      | true =>
        replace h := condT h hg22
        refine xb_run zbs 4 rfl rfl ?_
        cases hg23 : (r11.2 == 0) with
        | false =>
          replace h := condF h hg23
          refine xb_run zbs 30 rfl rfl ?_
          refine xb_end ?_
          exact ⟨false, SubW.cons rfl .refl SubW.nil, SubC'.nil, SubC'.nil, rfl, h⟩
        | true =>
          replace h := condT h hg23
          refine xb_run zbs 4 rfl rfl ?_
          cases hg24 : (r13.2 == 0) with
          | false =>
            replace h := condF h hg24
            refine xb_run zbs 26 rfl rfl ?_
            refine xb_end ?_
            exact ⟨false, SubW.cons rfl .refl SubW.nil, SubC'.nil, SubC'.nil, rfl, h⟩
          | true =>
            replace h := condT h hg24
            refine xb_run zbs 5 rfl rfl ?_
            cases hg25 : (r13.1.Term == 2) with
            | false =>
              replace h := condF h hg25
              refine xb_run zbs 21 rfl rfl ?_
              refine xb_end ?_
              exact ⟨false, SubW.cons rfl .refl SubW.nil, SubC'.nil, SubC'.nil, rfl, h⟩
            | true =>
              replace h := condT h hg25
              refine xb_run zbs 5 rfl rfl ?_
              cases hg26 : (r13.1.Vote == 1) with
              | false =>
                replace h := condF h hg26
                refine xb_run zbs 16 rfl rfl ?_
                refine xb_end ?_
                exact ⟨false, SubW.cons rfl .refl SubW.nil, SubC'.nil, SubC'.nil, rfl, h⟩
              | true =>
                replace h := condT h hg26
                refine xb_run zbs 2 rfl rfl ?_
                refine xb_pure rfl (pLenB rfl rfl rfl rfl rfl) rfl rfl rfl rfl ?_
                refine xb_run zbs 3 rfl rfl ?_
                cases hg27 : ((len r11.1.Entries) == 2) with
                | false =>
                  replace h := condF h hg27
                  refine xb_run zbs 10 rfl rfl ?_
                  refine xb_end ?_
                  exact ⟨false, SubW.cons rfl .refl SubW.nil, SubC'.nil, SubC'.nil, rfl, h⟩
                | true =>
                  replace h := condT h hg27
                  refine xb_run zbs 2 rfl rfl ?_
                  refine xb_pure rfl (pLenB rfl rfl rfl rfl rfl) rfl rfl rfl rfl ?_
                  refine xb_run zbs 3 rfl rfl ?_
                  cases hg28 : ((len r13.1.Entries) == 1) with
                  | false =>
                    replace h := condF h hg28
                    refine xb_run zbs 4 rfl rfl ?_
                    refine xb_end ?_
                    exact ⟨false, SubW.cons rfl .refl SubW.nil, SubC'.nil, SubC'.nil, rfl, h⟩
                  | true =>
                    replace h := condT h hg28
                    refine xb_run zbs 4 rfl rfl ?_
                    refine xb_end ?_
                    exact ⟨(r17.2 == 140), SubW.cons rfl .refl SubW.nil, SubC'.nil, SubC'.nil, rfl, h⟩
  · intro v19 h
    subst hJ20
    cases h
    refine y_ret ?_
    exact ends_retB 0 rfl rfl Has.nil ⟨rfl, rfl⟩

/-- folkmoot/folkmootlaw15.StableRight -/
def F4 (a0 : Kept) (a1 : Record) : Option (Bool) :=
  (F5 a0 a1).bind fun r1 => bif r1 then (some true) else ((F7 a0 a1).bind fun r3 => bif (r3.2 != 0) then (jn (fun (v5 : Bool) => some v5) fun J6 => (F10 ).bind fun r7 => bif r7 then (bif ((len r3.1.Entries) == 0) then (J6 (r3.1.Term == 0)) else (J6 false)) else (J6 false)) else ((F7 r3.1 (⟨1, r3.1.Term, r3.1.Vote, (⟨0, 0, 0, (⟨[], []⟩ : Config), []⟩ : Entry), 0, (⟨0, 0, (⟨[], []⟩ : Config), []⟩ : Snapshot)⟩ : Record)).bind fun r11 => jn (fun (v13 : Bool) => jn (fun (v18 : Bool) => some v18) fun J19 => (F10 ).bind fun r20 => bif r20 then (bif (r11.2 == 0) then (J19 v13) else (J19 false)) else (J19 false)) fun J14 => bif (a1.Kind == 1) then (bif ((fwrap .i64 (r3.1.Snap.Index + (len r3.1.Entries))) == (fwrap .i64 (a0.Snap.Index + (len a0.Entries)))) then (J14 (r3.1.Term == a1.Term)) else (J14 false)) else (bif (a1.Kind == 2) then (J14 ((fwrap .i64 (r3.1.Snap.Index + (len r3.1.Entries))) == (fwrap .i64 ((fwrap .i64 (a0.Snap.Index + (len a0.Entries))) + 1)))) else (bif (a1.Kind == 3) then (J14 ((fwrap .i64 (r3.1.Snap.Index + (len r3.1.Entries))) == (fwrap .i64 (a1.Index - 1)))) else (bif (a1.Kind == 4) then (bif (r3.1.Snap.Index == a1.Snap.Index) then (bif ((fwrap .i64 (r3.1.Snap.Index + (len r3.1.Entries))) == (fwrap .i64 (a0.Snap.Index + (len a0.Entries)))) then (J14 true) else (J14 ((fwrap .i64 (r3.1.Snap.Index + (len r3.1.Entries))) == a1.Snap.Index))) else (J14 false)) else (J14 false))))))
theorem f4_ok (a0 : Kept) (a1 : Record) (y : Bool) (h : F4 a0 a1 = some y) : CallB (evalL tis funs hints) noP 4 [.agg (Kept.cells 1 a0), .agg (Record.cells 1 a1)] [] (fun r ob => r = .ret (.bool y) ∧ ob = []) := by
  refine ansB_of rfl rfl rfl rfl fun om pi hp => ?_
  unfold F4 at h
  refine y_seq ?_
  refine y_region rfl rfl ?_
  refine xb_boxL (ZB := zbs) rfl rfl rfl rfl rfl rfl rfl rfl rfl rfl rfl ?_
  refine xb_boxL (ZB := zbs) rfl rfl rfl rfl rfl rfl rfl rfl rfl rfl rfl ?_
  refine xb_run zbs 1 rfl rfl ?_
  refine xb_end ?_
  refine y_nf ?_
  refine y_seq ?_
  refine y_seq ?_
  refine y_region rfl rfl ?_
  refine xb_run zbs 2 rfl rfl ?_
  obtain ⟨r1, hf2, h⟩ := bnd h
  refine xb_call (ZB := zbs) (P := noP) ⟨[], [], [], 1, 2⟩ rfl rfl rfl rfl rfl rfl rfl rfl rfl rfl (f5_ok a0 a1 _ hf2) rfl rfl rfl (fun v obr hq => ?_) (fun v obr hq => ?_)
  · obtain ⟨hv, rfl⟩ := hq
    cases hv
    refine xb_re (v' := .bool r1) (lo' := [(2, (Kept.cells 1 a0)), (3, (Record.cells 1 a1))]) (ob' := []) rfl rfl rfl ?_
    refine xb_end ?_
    refine y_nf ?_
    refine y_cond rfl (fun hc => ?_) (fun hc => ?_)
    · replace h := condT h hc
      refine y_seq ?_
      refine y_region rfl rfl ?_
      refine xb_run zbs 1 rfl rfl ?_
      refine xb_end ?_
      refine y_nf ?_
      cases h
      refine y_ret ?_
      exact ends_retB 0 rfl rfl Has.nil ⟨rfl, rfl⟩
    · replace h := condF h hc
      refine y_skip ?_
      refine y_nf ?_
      refine y_seq ?_
      refine y_region rfl rfl ?_
      refine xb_run zbs 2 rfl rfl ?_
      obtain ⟨r3, hf4, h⟩ := bnd h
      refine xb_call (ZB := zbs) (P := noP) ⟨[], [], [], 1, 3⟩ rfl rfl rfl rfl rfl rfl rfl rfl rfl rfl (f7_ok a0 a1 _ hf4) rfl rfl rfl (fun v obr hq => ?_) (fun v obr hq => ?_)
      · obtain ⟨hv, rfl⟩ := hq
        cases hv
        refine xb_re (v' := .tup [.agg (Kept.cells 8 r3.1), .int .i64 r3.2]) (lo' := [(2, (Kept.cells 1 a0)), (3, (Record.cells 1 a1))]) (ob' := []) rfl rfl rfl ?_
        refine xb_run zbs 3 rfl rfl ?_
        refine xb_allocL zb30 rfl rfl rfl rfl rfl rfl rfl rfl rfl rfl ?_
        refine xb_storeL (ZB := zbs) (c' := (Kept.cells 8 r3.1)) rfl rfl rfl rfl rfl rfl rfl rfl rfl rfl rfl ?_
        refine xb_run zbs 1 rfl rfl ?_
        refine xb_end ?_
        refine y_nf ?_
        refine y_seq ?_
        refine y_seq ?_
        refine y_region rfl rfl ?_
        refine xb_run zbs 2 rfl rfl ?_
        refine xb_end ?_
        refine y_nf ?_
        refine y_cond rfl (fun hc => ?_) (fun hc => ?_)
        · replace h := condT h hc
          obtain ⟨J6, hJ6, h⟩ := jnE h
          refine y_join1 (df' := []) (fun (v5 : Bool) => [(2, .lr 2 0), (3, .lr 3 0), (4, .v (.bool v5)), (5, .lr 5 0)]) (fun (v5 : Bool) => [(2, (Kept.cells 1 a0)), (3, (Record.cells 1 a1)), (5, (Kept.cells 8 r3.1))]) (fun (v5 : Bool) => []) (fun (v5 : Bool) => J6 v5 = some y) ?_ ?_
          · refine y_region rfl rfl ?_
            obtain ⟨r7, hf8, h⟩ := bnd h
            refine xb_call (ZB := zbs) (P := noP) ⟨[], [], [], 0, 4⟩ rfl rfl rfl rfl rfl rfl rfl rfl rfl rfl (f10_ok  _ hf8) rfl rfl rfl (fun v obr hq => ?_) (fun v obr hq => ?_)
            · obtain ⟨hv, rfl⟩ := hq
              cases hv
              refine xb_re (v' := .bool r7) (lo' := [(2, (Kept.cells 1 a0)), (3, (Record.cells 1 a1)), (5, (Kept.cells 8 r3.1))]) (ob' := []) rfl rfl rfl ?_
              refine xb_run zbs 1 rfl rfl ?_
              cases hg9 : r7 with
              | false =>
                replace h := condF h hg9
                refine xb_run zbs 11 rfl rfl ?_
                refine xb_end ?_
                exact ⟨false, SubW.cons rfl .refl (SubW.cons rfl .refl (SubW.cons rfl .refl (SubW.cons rfl .refl SubW.nil))), SubC'.cons rfl .refl (SubC'.cons rfl .refl (SubC'.cons rfl .refl SubC'.nil)), SubC'.nil, rfl, h⟩
              | true =>
                replace h := condT h hg9
                refine xb_run zbs 2 rfl rfl ?_
                refine xb_pure rfl (pLenB rfl rfl rfl rfl rfl) rfl rfl rfl rfl ?_
                refine xb_run zbs 3 rfl rfl ?_
                cases hg10 : ((len r3.1.Entries) == 0) with
                | false =>
                  replace h := condF h hg10
                  refine xb_run zbs 5 rfl rfl ?_
                  refine xb_end ?_
                  exact ⟨false, SubW.cons rfl .refl (SubW.cons rfl .refl (SubW.cons rfl .refl (SubW.cons rfl .refl SubW.nil))), SubC'.cons rfl .refl (SubC'.cons rfl .refl (SubC'.cons rfl .refl SubC'.nil)), SubC'.nil, rfl, h⟩
                | true =>
                  replace h := condT h hg10
                  refine xb_run zbs 5 rfl rfl ?_
                  refine xb_end ?_
                  exact ⟨(r3.1.Term == 0), SubW.cons rfl .refl (SubW.cons rfl .refl (SubW.cons rfl .refl (SubW.cons rfl .refl SubW.nil))), SubC'.cons rfl .refl (SubC'.cons rfl .refl (SubC'.cons rfl .refl SubC'.nil)), SubC'.nil, rfl, h⟩
            · obtain ⟨hv, _⟩ := hq
              cases hv
          · intro v5 h
            subst hJ6
            cases h
            refine y_ret ?_
            exact ends_retB 0 rfl rfl Has.nil ⟨rfl, rfl⟩
        · replace h := condF h hc
          refine y_skip ?_
          refine y_nf ?_
          refine y_seq ?_
          refine y_region rfl rfl ?_
          refine xb_run zbs 6 rfl rfl ?_
          obtain ⟨r11, hf12, h⟩ := bnd h
          refine xb_call (ZB := zbs) (P := noP) ⟨[], [], [], 8, 5⟩ rfl rfl rfl rfl rfl rfl rfl rfl rfl rfl (f7_ok r3.1 (⟨1, r3.1.Term, r3.1.Vote, (⟨0, 0, 0, (⟨[], []⟩ : Config), []⟩ : Entry), 0, (⟨0, 0, (⟨[], []⟩ : Config), []⟩ : Snapshot)⟩ : Record) _ hf12) rfl rfl rfl (fun v obr hq => ?_) (fun v obr hq => ?_)
          · obtain ⟨hv, rfl⟩ := hq
            cases hv
            refine xb_re (v' := .tup [.agg (Kept.cells 32 r11.1), .int .i64 r11.2]) (lo' := [(2, (Kept.cells 1 a0)), (3, (Record.cells 1 a1)), (5, (Kept.cells 8 r3.1))]) (ob' := []) rfl rfl rfl ?_
            refine xb_run zbs 3 rfl rfl ?_
            refine xb_allocL zb30 rfl rfl rfl rfl rfl rfl rfl rfl rfl rfl ?_
            refine xb_storeL (ZB := zbs) (c' := (Kept.cells 32 r11.1)) rfl rfl rfl rfl rfl rfl rfl rfl rfl rfl rfl ?_
            refine xb_run zbs 1 rfl rfl ?_
            refine xb_end ?_
            refine y_nf ?_
            refine y_seq ?_
            refine y_region rfl rfl ?_
            refine xb_run zbs 5 rfl rfl ?_
            refine xb_pure rfl (pLenB rfl rfl rfl rfl rfl) rfl rfl rfl rfl ?_
            refine xb_run zbs 2 rfl rfl ?_
            refine xb_end ?_
            refine y_nf ?_
            refine y_seq ?_
            refine y_region rfl rfl ?_
            refine xb_run zbs 5 rfl rfl ?_
            refine xb_pure rfl (pLenB rfl rfl rfl rfl rfl) rfl rfl rfl rfl ?_
            refine xb_run zbs 2 rfl rfl ?_
            refine xb_end ?_
            refine y_nf ?_
            refine y_seq ?_
            refine y_region rfl rfl ?_
            refine xb_run zbs 1 rfl rfl ?_
            refine xb_end ?_
            refine y_nf ?_
            obtain ⟨J14, hJ14, h⟩ := jnE h
            refine y_join1 (df' := []) (fun (v13 : Bool) => [(4, .v (.bool false)), (8, .v (.int .i64 r11.2)), (11, .v (.bool v13))]) (fun (v13 : Bool) => []) (fun (v13 : Bool) => []) (fun (v13 : Bool) => J14 v13 = some y) ?_ ?_
            · refine y_seq ?_
              refine y_region rfl rfl ?_
              refine xb_run zbs 2 rfl rfl ?_
              refine xb_end ?_
              refine y_nf ?_
              refine y_block ?_
              refine y_seq ?_
              refine y_region rfl rfl ?_
              refine xb_run zbs 2 rfl rfl ?_
              refine xb_end ?_
              refine y_nf ?_
              refine y_cond rfl (fun hc => ?_) (fun hc => ?_)
              · replace h := condT h hc
                refine y_region rfl rfl ?_
                refine xb_run zbs 4 rfl rfl ?_
                cases hg15 : ((fwrap .i64 (r3.1.Snap.Index + (len r3.1.Entries))) == (fwrap .i64 (a0.Snap.Index + (len a0.Entries)))) with
                | false =>
                  replace h := condF h hg15
                  refine xb_run zbs 7 rfl rfl ?_
                  refine xb_end ?_
                  exact ⟨false, SubW.cons rfl .refl (SubW.cons rfl .refl (SubW.cons rfl .refl SubW.nil)), SubC'.nil, SubC'.nil, rfl, h⟩
                | true =>
                  replace h := condT h hg15
                  refine xb_run zbs 7 rfl rfl ?_
                  refine xb_end ?_
                  exact ⟨(r3.1.Term == a1.Term), SubW.cons rfl .refl (SubW.cons rfl .refl (SubW.cons rfl .refl SubW.nil)), SubC'.nil, SubC'.nil, rfl, h⟩
              · replace h := condF h hc
                refine y_seq ?_
                refine y_region rfl rfl ?_
                refine xb_run zbs 2 rfl rfl ?_
                refine xb_end ?_
                refine y_nf ?_
                refine y_cond rfl (fun hc => ?_) (fun hc => ?_)
                · replace h := condT h hc
                  refine y_region rfl rfl ?_
                  refine xb_run zbs 5 rfl rfl ?_
                  refine xb_end ?_
                  exact ⟨((fwrap .i64 (r3.1.Snap.Index + (len r3.1.Entries))) == (fwrap .i64 ((fwrap .i64 (a0.Snap.Index + (len a0.Entries))) + 1))), SubW.cons rfl .refl (SubW.cons rfl .refl (SubW.cons rfl .refl SubW.nil)), SubC'.nil, SubC'.nil, rfl, h⟩
                · replace h := condF h hc
                  refine y_seq ?_
                  refine y_region rfl rfl ?_
                  refine xb_run zbs 2 rfl rfl ?_
                  refine xb_end ?_
                  refine y_nf ?_
                  refine y_cond rfl (fun hc => ?_) (fun hc => ?_)
                  · replace h := condT h hc
                    refine y_region rfl rfl ?_
                    refine xb_run zbs 6 rfl rfl ?_
                    refine xb_end ?_
                    exact ⟨((fwrap .i64 (r3.1.Snap.Index + (len r3.1.Entries))) == (fwrap .i64 (a1.Index - 1))), SubW.cons rfl .refl (SubW.cons rfl .refl (SubW.cons rfl .refl SubW.nil)), SubC'.nil, SubC'.nil, rfl, h⟩
                  · replace h := condF h hc
                    refine y_seq ?_
                    refine y_region rfl rfl ?_
                    refine xb_run zbs 2 rfl rfl ?_
                    refine xb_end ?_
                    refine y_nf ?_
                    refine y_cond rfl (fun hc => ?_) (fun hc => ?_)
                    · replace h := condT h hc
                      refine y_region rfl rfl ?_
                      refine xb_run zbs 8 rfl rfl ?_
                      cases hg16 : (r3.1.Snap.Index == a1.Snap.Index) with
                      | false =>
                        replace h := condF h hg16
                        refine xb_run zbs 12 rfl rfl ?_
                        refine xb_end ?_
                        exact ⟨false, SubW.cons rfl .refl (SubW.cons rfl .refl (SubW.cons rfl .refl SubW.nil)), SubC'.nil, SubC'.nil, rfl, h⟩
                      | true =>
                        replace h := condT h hg16
                        refine xb_run zbs 4 rfl rfl ?_
                        cases hg17 : ((fwrap .i64 (r3.1.Snap.Index + (len r3.1.Entries))) == (fwrap .i64 (a0.Snap.Index + (len a0.Entries)))) with
                        | false =>
                          replace h := condF h hg17
                          refine xb_run zbs 8 rfl rfl ?_
                          refine xb_end ?_
                          exact ⟨((fwrap .i64 (r3.1.Snap.Index + (len r3.1.Entries))) == a1.Snap.Index), SubW.cons rfl .refl (SubW.cons rfl .refl (SubW.cons rfl .refl SubW.nil)), SubC'.nil, SubC'.nil, rfl, h⟩
                        | true =>
                          replace h := condT h hg17
                          refine xb_run zbs 8 rfl rfl ?_
                          refine xb_end ?_
                          exact ⟨true, SubW.cons rfl .refl (SubW.cons rfl .refl (SubW.cons rfl .refl SubW.nil)), SubC'.nil, SubC'.nil, rfl, h⟩
                    · replace h := condF h hc
                      refine y_skip ?_
                      exact ⟨false, SubW.cons rfl .refl (SubW.cons rfl .refl (SubW.cons rfl .refl SubW.nil)), SubC'.nil, SubC'.nil, rfl, h⟩
            · intro v13 h
              subst hJ14
              obtain ⟨J19, hJ19, h⟩ := jnE h
              refine y_join1 (df' := []) (fun (v18 : Bool) => [(4, .v (.bool v18))]) (fun (v18 : Bool) => []) (fun (v18 : Bool) => []) (fun (v18 : Bool) => J19 v18 = some y) ?_ ?_
              · refine y_region rfl rfl ?_
                obtain ⟨r20, hf21, h⟩ := bnd h
                refine xb_call (ZB := zbs) (P := noP) ⟨[], [], [], 0, 6⟩ rfl rfl rfl rfl rfl rfl rfl rfl rfl rfl (f10_ok  _ hf21) rfl rfl rfl (fun v obr hq => ?_) (fun v obr hq => ?_)
                · obtain ⟨hv, rfl⟩ := hq
                  cases hv
                  refine xb_re (v' := .bool r20) (lo' := []) (ob' := []) rfl rfl rfl ?_
                  refine xb_run zbs 1 rfl rfl ?_
                  cases hg22 : r20 with
                  | false =>
                    replace h := condF h hg22
                    refine xb_run zbs 7 rfl rfl ?_
                    refine xb_end ?_
                    exact ⟨false, SubW.cons rfl .refl SubW.nil, SubC'.nil, SubC'.nil, rfl, h⟩
                  | true =>
                    replace h := condT h hg22
                    refine xb_run zbs 4 rfl rfl ?_
                    cases hg23 : (r11.2 == 0) with
                    | false =>
                      replace h := condF h hg23
                      refine xb_run zbs 3 rfl rfl ?_
                      refine xb_end ?_
                      exact ⟨false, SubW.cons rfl .refl SubW.nil, SubC'.nil, SubC'.nil, rfl, h⟩
                    | true =>
                      replace h := condT h hg23
                      refine xb_run zbs 3 rfl rfl ?_
                      refine xb_end ?_
                      exact ⟨v13, SubW.cons rfl .refl SubW.nil, SubC'.nil, SubC'.nil, rfl, h⟩
                · obtain ⟨hv, _⟩ := hq
                  cases hv
              · intro v18 h
                subst hJ19
                cases h
                refine y_ret ?_
                exact ends_retB 0 rfl rfl Has.nil ⟨rfl, rfl⟩
          · obtain ⟨hv, _⟩ := hq
            cases hv
      · obtain ⟨hv, _⟩ := hq
        cases hv
  · obtain ⟨hv, _⟩ := hq
    cases hv

/-- folkmoot/folkmootlaw15.StableFolds -/
def F3 (a0 : Kept) (a1 : Record) : Option (Bool) :=
  (F5 a0 a1).bind fun r1 => bif r1 then (some true) else ((F6 a0).bind fun r3 => (F7 a0 a1).bind fun r5 => (F8 r3 a1).bind fun r7 => jn (fun (v9 : Bool) => jn (jn (jn (fun (v38 : Bool) => some v38) fun J39 => (F10 ).bind fun r40 => bif r40 then (bif v9 then ((F9 a0 r3).bind fun r44 => J39 r44) else (J39 false)) else (J39 false)) fun J32 => lp1 (fun (v34 : Int) => bif (decide (v34 < (len r5.1.Snap.Config.Voters))) then ((idx r5.1.Snap.Config.Voters v34).bind fun x36 => some (.inl (fwrap .i64 (v34 + 1)))) else (some (.inr (.inl ())))) 0 (fun (_ : Unit) => J32)) fun J14 => lp1 (fun (v16 : Int) => bif (decide (v16 < (len r5.1.Entries))) then (jn (fun (v18 : Int) (v19 : Bool) => some (.inl (fwrap .i64 (v16 + 1)))) fun J20 => (idx r5.1.Entries v16).bind fun x21 => lp1 (fun (v24 : Int) => (idx r5.1.Entries v16).bind fun x26 => bif (decide (v24 < (len x26.Config.Voters))) then ((idx r5.1.Entries v16).bind fun x28 => (idx x28.Config.Voters v24).bind fun x30 => some (.inl (fwrap .i64 (v24 + 1)))) else (some (.inr (.inl (v24, (decide (v24 < (len x26.Config.Voters)))))))) 0 (fun (q : Int × Bool) => J20 q.1 q.2)) else (some (.inr (.inl ())))) 0 (fun (_ : Unit) => J14)) fun J10 => bif (r5.2 == r7.2) then ((F9 r5.1 r7.1).bind fun r12 => J10 r12) else (J10 false))
theorem f3_ok (a0 : Kept) (a1 : Record) (y : Bool) (h : F3 a0 a1 = some y) : CallB (evalL tis funs hints) noP 3 [.agg (Kept.cells 1 a0), .agg (Record.cells 1 a1)] [] (fun r ob => r = .ret (.bool y) ∧ ob = []) := by
  refine ansB_of rfl rfl rfl rfl fun om pi hp => ?_
  unfold F3 at h
  refine y_seq ?_
  refine y_region rfl rfl ?_
  refine xb_boxL (ZB := zbs) rfl rfl rfl rfl rfl rfl rfl rfl rfl rfl rfl ?_
  refine xb_boxL (ZB := zbs) rfl rfl rfl rfl rfl rfl rfl rfl rfl rfl rfl ?_
  refine xb_run zbs 1 rfl rfl ?_
  refine xb_end ?_
  refine y_nf ?_
  refine y_seq ?_
  refine y_seq ?_
  refine y_region rfl rfl ?_
  refine xb_run zbs 2 rfl rfl ?_
  obtain ⟨r1, hf2, h⟩ := bnd h
  refine xb_call (ZB := zbs) (P := noP) ⟨[], [], [], 1, 2⟩ rfl rfl rfl rfl rfl rfl rfl rfl rfl rfl (f5_ok a0 a1 _ hf2) rfl rfl rfl (fun v obr hq => ?_) (fun v obr hq => ?_)
  · obtain ⟨hv, rfl⟩ := hq
    cases hv
    refine xb_re (v' := .bool r1) (lo' := [(2, (Kept.cells 1 a0)), (3, (Record.cells 1 a1))]) (ob' := []) rfl rfl rfl ?_
    refine xb_end ?_
    refine y_nf ?_
    refine y_cond rfl (fun hc => ?_) (fun hc => ?_)
    · replace h := condT h hc
      refine y_seq ?_
      refine y_region rfl rfl ?_
      refine xb_run zbs 1 rfl rfl ?_
      refine xb_end ?_
      refine y_nf ?_
      cases h
      refine y_ret ?_
      exact ends_retB 0 rfl rfl Has.nil ⟨rfl, rfl⟩
    · replace h := condF h hc
      refine y_skip ?_
      refine y_nf ?_
      refine y_seq ?_
      refine y_region rfl rfl ?_
      refine xb_run zbs 1 rfl rfl ?_
      obtain ⟨r3, hf4, h⟩ := bnd h
      refine xb_call (ZB := zbs) (P := (fun t => Nat.beq t 87)) ⟨[(3, 87)], [], [], 1, 4⟩ rfl rfl rfl rfl rfl rfl rfl rfl rfl rfl (f6_ok a0 _ hf4) rfl rfl rfl (fun v obr hq => ?_) (fun v obr hq => ?_)
      · obtain ⟨hv, rfl⟩ := hq
        cases hv
        refine xb_re (v' := .agg [.int .i64 r3.Term, .int .i64 r3.Vote, .int .i64 r3.Snap.Index, .int .i64 r3.Snap.Term, .ls (List.map ci r3.Snap.Config.Voters) 1 0 16, .ls (List.map ci r3.Snap.Config.Learners) 1 0 16, .str r3.Snap.Data, .ls (List.map Entry.row r3.Entries) 6 4 16]) (lo' := [(2, (Kept.cells 1 a0)), (3, (Record.cells 1 a1))]) (ob' := []) rfl rfl rfl ?_
        refine xb_allocL zb30 rfl rfl rfl rfl rfl rfl rfl rfl rfl rfl ?_
        refine xb_storeL (ZB := zbs) (c' := [.int .i64 r3.Term, .int .i64 r3.Vote, .int .i64 r3.Snap.Index, .int .i64 r3.Snap.Term, .ls (List.map ci r3.Snap.Config.Voters) 1 0 16, .ls (List.map ci r3.Snap.Config.Learners) 1 0 16, .str r3.Snap.Data, .ls (List.map Entry.row r3.Entries) 6 4 16]) rfl rfl rfl rfl rfl rfl rfl rfl rfl rfl rfl ?_
        refine xb_end ?_
        refine y_nf ?_
        refine y_seq ?_
        refine y_region rfl rfl ?_
        refine xb_run zbs 2 rfl rfl ?_
        obtain ⟨r5, hf6, h⟩ := bnd h
        refine xb_call (ZB := zbs) (P := noP) ⟨[], [], [], 1, 5⟩ rfl rfl rfl rfl rfl rfl rfl rfl rfl rfl (f7_ok a0 a1 _ hf6) rfl rfl rfl (fun v obr hq => ?_) (fun v obr hq => ?_)
        · obtain ⟨hv, rfl⟩ := hq
          cases hv
          refine xb_re (v' := .tup [.agg (Kept.cells 32 r5.1), .int .i64 r5.2]) (lo' := [(2, (Kept.cells 1 a0)), (3, (Record.cells 1 a1)), (5, [.int .i64 r3.Term, .int .i64 r3.Vote, .int .i64 r3.Snap.Index, .int .i64 r3.Snap.Term, .ls (List.map ci r3.Snap.Config.Voters) 1 0 16, .ls (List.map ci r3.Snap.Config.Learners) 1 0 16, .str r3.Snap.Data, .ls (List.map Entry.row r3.Entries) 6 4 16])]) (ob' := []) rfl rfl rfl ?_
          refine xb_run zbs 3 rfl rfl ?_
          refine xb_allocL zb30 rfl rfl rfl rfl rfl rfl rfl rfl rfl rfl ?_
          refine xb_storeL (ZB := zbs) (c' := (Kept.cells 32 r5.1)) rfl rfl rfl rfl rfl rfl rfl rfl rfl rfl rfl ?_
          refine xb_run zbs 1 rfl rfl ?_
          refine xb_end ?_
          refine y_nf ?_
          refine y_seq ?_
          refine y_region rfl rfl ?_
          refine xb_run zbs 2 rfl rfl ?_
          obtain ⟨r7, hf8, h⟩ := bnd h
          refine xb_call (ZB := zbs) (P := noP) ⟨[], [], [], 25, 6⟩ rfl rfl rfl rfl rfl rfl rfl rfl rfl rfl (f8_ok r3 a1 _ hf8) rfl rfl rfl (fun v obr hq => ?_) (fun v obr hq => ?_)
          · obtain ⟨hv, rfl⟩ := hq
            cases hv
            refine xb_re (v' := .tup [.agg (Kept.cells 64 r7.1), .int .i64 r7.2]) (lo' := [(2, (Kept.cells 1 a0)), (3, (Record.cells 1 a1)), (5, [.int .i64 r3.Term, .int .i64 r3.Vote, .int .i64 r3.Snap.Index, .int .i64 r3.Snap.Term, .ls (List.map ci r3.Snap.Config.Voters) 1 0 16, .ls (List.map ci r3.Snap.Config.Learners) 1 0 16, .str r3.Snap.Data, .ls (List.map Entry.row r3.Entries) 6 4 16]), (6, (Kept.cells 32 r5.1))]) (ob' := []) rfl rfl rfl ?_
            refine xb_run zbs 3 rfl rfl ?_
            refine xb_allocL zb30 rfl rfl rfl rfl rfl rfl rfl rfl rfl rfl ?_
            refine xb_storeL (ZB := zbs) (c' := (Kept.cells 64 r7.1)) rfl rfl rfl rfl rfl rfl rfl rfl rfl rfl rfl ?_
            refine xb_run zbs 1 rfl rfl ?_
            refine xb_end ?_
            refine y_nf ?_
            obtain ⟨J10, hJ10, h⟩ := jnE h
            refine y_join1 (df' := []) (fun (v9 : Bool) => [(2, .lr 2 0), (4, .v (.bool false)), (5, .lr 5 0), (6, .lr 6 0), (10, .v (.bool v9))]) (fun (v9 : Bool) => [(2, (Kept.cells 1 a0)), (5, [.int .i64 r3.Term, .int .i64 r3.Vote, .int .i64 r3.Snap.Index, .int .i64 r3.Snap.Term, .ls (List.map ci r3.Snap.Config.Voters) 1 0 16, .ls (List.map ci r3.Snap.Config.Learners) 1 0 16, .str r3.Snap.Data, .ls (List.map Entry.row r3.Entries) 6 4 16]), (6, (Kept.cells 32 r5.1))]) (fun (v9 : Bool) => []) (fun (v9 : Bool) => J10 v9 = some y) ?_ ?_
            · refine y_region rfl rfl ?_
              refine xb_run zbs 4 rfl rfl ?_
              cases hg11 : (r5.2 == r7.2) with
              | false =>
                replace h := condF h hg11
                refine xb_run zbs 5 rfl rfl ?_
                refine xb_end ?_
                exact ⟨false, SubW.cons rfl .refl (SubW.cons rfl .refl (SubW.cons rfl .refl (SubW.cons rfl .refl (SubW.cons rfl .refl SubW.nil)))), SubC'.cons rfl .refl (SubC'.cons rfl .refl (SubC'.cons rfl .refl SubC'.nil)), SubC'.nil, rfl, h⟩
              | true =>
                replace h := condT h hg11
                refine xb_run zbs 2 rfl rfl ?_
                obtain ⟨r12, hf13, h⟩ := bnd h
                refine xb_call (ZB := zbs) (P := noP) ⟨[], [], [], 96, 7⟩ rfl rfl rfl rfl rfl rfl rfl rfl rfl rfl (f9_ok r5.1 r7.1 _ hf13) rfl rfl rfl (fun v obr hq => ?_) (fun v obr hq => ?_)
                · obtain ⟨hv, rfl⟩ := hq
                  cases hv
                  refine xb_re (v' := .bool r12) (lo' := [(2, (Kept.cells 1 a0)), (3, (Record.cells 1 a1)), (5, [.int .i64 r3.Term, .int .i64 r3.Vote, .int .i64 r3.Snap.Index, .int .i64 r3.Snap.Term, .ls (List.map ci r3.Snap.Config.Voters) 1 0 16, .ls (List.map ci r3.Snap.Config.Learners) 1 0 16, .str r3.Snap.Data, .ls (List.map Entry.row r3.Entries) 6 4 16]), (6, (Kept.cells 32 r5.1)), (8, (Kept.cells 64 r7.1))]) (ob' := []) rfl rfl rfl ?_
                  refine xb_run zbs 2 rfl rfl ?_
                  refine xb_end ?_
                  exact ⟨r12, SubW.cons rfl .refl (SubW.cons rfl .refl (SubW.cons rfl .refl (SubW.cons rfl .refl (SubW.cons rfl .refl SubW.nil)))), SubC'.cons rfl .refl (SubC'.cons rfl .refl (SubC'.cons rfl .refl SubC'.nil)), SubC'.nil, rfl, h⟩
                · obtain ⟨hv, _⟩ := hq
                  cases hv
            · intro v9 h
              subst hJ10
              obtain ⟨J14, hJ14, h⟩ := jnE h
              refine y_join0 (df' := []) [(2, .lr 2 0), (4, .v (.bool false)), (5, .lr 5 0), (6, .lr 6 0), (10, .v (.bool v9))] ([(2, (Kept.cells 1 a0)), (5, [.int .i64 r3.Term, .int .i64 r3.Vote, .int .i64 r3.Snap.Index, .int .i64 r3.Snap.Term, .ls (List.map ci r3.Snap.Config.Voters) 1 0 16, .ls (List.map ci r3.Snap.Config.Learners) 1 0 16, .str r3.Snap.Data, .ls (List.map Entry.row r3.Entries) 6 4 16]), (6, [.int .i64 r5.1.Term, .int .i64 r5.1.Vote, .int .i64 r5.1.Snap.Index, .int .i64 r5.1.Snap.Term, .ls (List.map cib r5.1.Snap.Config.Voters) 1 0 32, .ls (List.map cib r5.1.Snap.Config.Learners) 1 0 32, .str r5.1.Snap.Data, .ls (List.map Entry.brow r5.1.Entries) 6 0 32])]) [] (J14 = some y) ?_ ?_
              · refine y_seq ?_
                refine y_region rfl rfl ?_
                refine xb_run zbs 1 rfl rfl ?_
                refine xb_end ?_
                refine y_nf ?_
                refine y_block ?_
                refine y_lp1 h (fun (v16 : Int) => [(2, .lr 2 0), (4, .v (.bool false)), (5, .lr 5 0), (6, .lr 6 0), (10, .v (.bool v9)), (11, .v (.int .i64 v16))]) (fun (v16 : Int) => [(2, (Kept.cells 1 a0)), (5, [.int .i64 r3.Term, .int .i64 r3.Vote, .int .i64 r3.Snap.Index, .int .i64 r3.Snap.Term, .ls (List.map ci r3.Snap.Config.Voters) 1 0 16, .ls (List.map ci r3.Snap.Config.Learners) 1 0 16, .str r3.Snap.Data, .ls (List.map Entry.row r3.Entries) 6 4 16]), (6, [.int .i64 r5.1.Term, .int .i64 r5.1.Vote, .int .i64 r5.1.Snap.Index, .int .i64 r5.1.Snap.Term, .ls (List.map cib r5.1.Snap.Config.Voters) 1 0 32, .ls (List.map cib r5.1.Snap.Config.Learners) 1 0 32, .str r5.1.Snap.Data, .ls (List.map Entry.brow r5.1.Entries) 6 0 32])]) (fun (v16 : Int) => []) (SubW.cons rfl .refl (SubW.cons rfl .refl (SubW.cons rfl .refl (SubW.cons rfl .refl (SubW.cons rfl .refl (SubW.cons rfl .refl SubW.nil)))))) (SubC'.cons rfl .refl (SubC'.cons rfl .refl (SubC'.cons rfl (.cons .refl (.cons .refl (.cons .refl (.cons .refl (.cons (.n (.rows cib_wk)) (.cons (.n (.rows cib_wk)) (.cons .refl (.cons (.n (.rows Entry.bwk)) .nil)))))))) SubC'.nil))) SubC'.nil ?_
                intro v16 w17 h
                refine y_seq ?_
                refine y_seq ?_
                refine y_region rfl rfl ?_
                refine xb_run zbs 3 rfl rfl ?_
                refine xb_pure rfl (pLenB rfl rfl rfl rfl rfl) rfl rfl rfl rfl ?_
                refine xb_run zbs 1 rfl rfl ?_
                refine xb_end ?_
                refine y_nf ?_
                refine y_cond rfl (fun hc => ?_) (fun hc => ?_)
                · replace h := condT h hc
                  refine y_skip ?_
                  refine y_nf ?_
                  obtain ⟨J20, hJ20, h⟩ := jnE h
                  refine y_join2 (df' := []) (fun (v18 : Int) (v19 : Bool) => [(2, .lr 2 0), (4, .v (.bool false)), (5, .lr 5 0), (6, .lr 6 0), (10, .v (.bool v9)), (11, .v (.int .i64 v16)), (12, .v (.int .i64 v18)), (43, .v (.bool (decide (v16 < (len r5.1.Entries))))), (60, .v (.bool v19))]) (fun (v18 : Int) (v19 : Bool) => [(2, (Kept.cells 1 a0)), (5, [.int .i64 r3.Term, .int .i64 r3.Vote, .int .i64 r3.Snap.Index, .int .i64 r3.Snap.Term, .ls (List.map ci r3.Snap.Config.Voters) 1 0 16, .ls (List.map ci r3.Snap.Config.Learners) 1 0 16, .str r3.Snap.Data, .ls (List.map Entry.row r3.Entries) 6 4 16]), (6, [.int .i64 r5.1.Term, .int .i64 r5.1.Vote, .int .i64 r5.1.Snap.Index, .int .i64 r5.1.Snap.Term, .ls (List.map cib r5.1.Snap.Config.Voters) 1 0 32, .ls (List.map cib r5.1.Snap.Config.Learners) 1 0 32, .str r5.1.Snap.Data, .ls (List.map Entry.brow r5.1.Entries) 6 0 32])]) (fun (v18 : Int) (v19 : Bool) => []) (fun (v18 : Int) (v19 : Bool) => J20 v18 v19 = some w17) ?_ ?_
                  · refine y_block ?_
                    refine y_seq ?_
                    refine y_region rfl rfl ?_
                    refine xb_run zbs 3 rfl rfl ?_
                    obtain ⟨x21, hx22, h⟩ := bnd h
                    refine xb_pure rfl (pIdxB rfl rfl rfl rfl hx22) rfl rfl rfl rfl ?_
                    refine xb_run zbs 1 rfl rfl ?_
                    refine xb_storeW (ZB := zbs) (k := 5) rfl rfl rfl rfl rfl rfl rfl rfl rfl rfl (.inl rfl) (by repeat' (first | exact fa_nil | exact trivial | exact BlV.free rfl | exact BlV.ls (bl_rows Entry.bl) | exact BlV.ls (bl_rows cib_bl) | exact BlV.ls (bl_rows csb_bl) | exact BlV.ro (Entry.bl _) | exact BlV.ro (cib_bl _) | exact BlV.ro (csb_bl _) | refine BlV.agg ?_ | refine fa_cons ?_ ?_)) (by repeat' (first | exact fa_nil | exact trivial | exact BlV.free rfl | exact BlV.ls (bl_rows Entry.bl) | exact BlV.ls (bl_rows cib_bl) | exact BlV.ls (bl_rows csb_bl) | exact BlV.ro (Entry.bl _) | exact BlV.ro (cib_bl _) | exact BlV.ro (csb_bl _) | refine BlV.agg ?_ | refine fa_cons ?_ ?_)) (by repeat' (first | exact fa_nil | exact trivial | exact BlV.free rfl | exact BlV.ls (bl_rows Entry.bl) | exact BlV.ls (bl_rows cib_bl) | exact BlV.ls (bl_rows csb_bl) | exact BlV.ro (Entry.bl _) | exact BlV.ro (cib_bl _) | exact BlV.ro (csb_bl _) | refine BlV.agg ?_ | refine fa_cons ?_ ?_)) (by repeat' (first | exact fa_nil | exact trivial | exact BlV.free rfl | exact BlV.ls (bl_rows Entry.bl) | exact BlV.ls (bl_rows cib_bl) | exact BlV.ls (bl_rows csb_bl) | exact BlV.ro (Entry.bl _) | exact BlV.ro (cib_bl _) | exact BlV.ro (csb_bl _) | refine BlV.agg ?_ | refine fa_cons ?_ ?_)) (by repeat' (first | exact fa_nil | exact trivial | exact BlV.free rfl | exact BlV.ls (bl_rows Entry.bl) | exact BlV.ls (bl_rows cib_bl) | exact BlV.ls (bl_rows csb_bl) | exact BlV.ro (Entry.bl _) | exact BlV.ro (cib_bl _) | exact BlV.ro (csb_bl _) | refine BlV.agg ?_ | refine fa_cons ?_ ?_)) rfl rfl rfl ?_
                    refine xb_end ?_
                    refine y_nf ?_
                    refine y_seq ?_
                    refine y_region rfl rfl ?_
                    refine xb_run zbs 1 rfl rfl ?_
                    refine xb_end ?_
                    refine y_nf ?_
                    refine y_block ?_
                    refine y_lp1 h (fun (v24 : Int) => [(2, .lr 2 0), (4, .v (.bool false)), (5, .lr 5 0), (6, .lr 6 0), (10, .v (.bool v9)), (11, .v (.int .i64 v16)), (12, .v (.int .i64 v24)), (43, .v (.bool (decide (v16 < (len r5.1.Entries)))))]) (fun (v24 : Int) => [(2, (Kept.cells 1 a0)), (5, [.int .i64 r3.Term, .int .i64 r3.Vote, .int .i64 r3.Snap.Index, .int .i64 r3.Snap.Term, .ls (List.map ci r3.Snap.Config.Voters) 1 0 16, .ls (List.map ci r3.Snap.Config.Learners) 1 0 16, .str r3.Snap.Data, .ls (List.map Entry.row r3.Entries) 6 4 16]), (6, [.int .i64 r5.1.Term, .int .i64 r5.1.Vote, .int .i64 r5.1.Snap.Index, .int .i64 r5.1.Snap.Term, .ls (List.map cib r5.1.Snap.Config.Voters) 1 0 32, .ls (List.map cib r5.1.Snap.Config.Learners) 1 0 32, .str r5.1.Snap.Data, .ls (List.map Entry.brow r5.1.Entries) 6 0 32])]) (fun (v24 : Int) => []) (SubW.cons rfl .refl (SubW.cons rfl .refl (SubW.cons rfl .refl (SubW.cons rfl .refl (SubW.cons rfl .refl (SubW.cons rfl .refl (SubW.cons rfl .refl (SubW.cons rfl .refl SubW.nil)))))))) (SubC'.cons rfl .refl (SubC'.cons rfl .refl (SubC'.cons rfl .refl SubC'.nil))) SubC'.nil ?_
                    intro v24 w25 h
                    refine y_seq ?_
                    refine y_seq ?_
                    refine y_region rfl rfl ?_
                    refine xb_run zbs 4 rfl rfl ?_
                    obtain ⟨x26, hx27, h⟩ := bnd h
                    refine xb_pure rfl (pIdxB rfl rfl rfl rfl hx27) rfl rfl rfl rfl ?_
                    refine xb_run zbs 3 rfl rfl ?_
                    refine xb_pure rfl (pLenB rfl rfl rfl rfl rfl) rfl rfl rfl rfl ?_
                    refine xb_run zbs 1 rfl rfl ?_
                    refine xb_end ?_
                    refine y_nf ?_
                    refine y_cond rfl (fun hc => ?_) (fun hc => ?_)
                    · replace h := condT h hc
                      refine y_skip ?_
                      refine y_nf ?_
                      refine y_seq ?_
                      refine y_block ?_
                      refine y_region rfl rfl ?_
                      refine xb_run zbs 3 rfl rfl ?_
                      obtain ⟨x28, hx29, h⟩ := bnd h
                      refine xb_pure rfl (pIdxB rfl rfl rfl rfl hx29) rfl rfl rfl rfl ?_
                      refine xb_run zbs 4 rfl rfl ?_
                      obtain ⟨x30, hx31, h⟩ := bnd h
                      refine xb_pure rfl (pIdxB rfl rfl rfl rfl hx31) rfl rfl rfl rfl ?_
                      refine xb_storeW (ZB := zbs) (k := 5) rfl rfl rfl rfl rfl rfl rfl rfl rfl rfl (.inl rfl) (by repeat' (first | exact fa_nil | exact trivial | exact BlV.free rfl | exact BlV.ls (bl_rows Entry.bl) | exact BlV.ls (bl_rows cib_bl) | exact BlV.ls (bl_rows csb_bl) | exact BlV.ro (Entry.bl _) | exact BlV.ro (cib_bl _) | exact BlV.ro (csb_bl _) | refine BlV.agg ?_ | refine fa_cons ?_ ?_)) (by repeat' (first | exact fa_nil | exact trivial | exact BlV.free rfl | exact BlV.ls (bl_rows Entry.bl) | exact BlV.ls (bl_rows cib_bl) | exact BlV.ls (bl_rows csb_bl) | exact BlV.ro (Entry.bl _) | exact BlV.ro (cib_bl _) | exact BlV.ro (csb_bl _) | refine BlV.agg ?_ | refine fa_cons ?_ ?_)) (by repeat' (first | exact fa_nil | exact trivial | exact BlV.free rfl | exact BlV.ls (bl_rows Entry.bl) | exact BlV.ls (bl_rows cib_bl) | exact BlV.ls (bl_rows csb_bl) | exact BlV.ro (Entry.bl _) | exact BlV.ro (cib_bl _) | exact BlV.ro (csb_bl _) | refine BlV.agg ?_ | refine fa_cons ?_ ?_)) (by repeat' (first | exact fa_nil | exact trivial | exact BlV.free rfl | exact BlV.ls (bl_rows Entry.bl) | exact BlV.ls (bl_rows cib_bl) | exact BlV.ls (bl_rows csb_bl) | exact BlV.ro (Entry.bl _) | exact BlV.ro (cib_bl _) | exact BlV.ro (csb_bl _) | refine BlV.agg ?_ | refine fa_cons ?_ ?_)) (by repeat' (first | exact fa_nil | exact trivial | exact BlV.free rfl | exact BlV.ls (bl_rows Entry.bl) | exact BlV.ls (bl_rows cib_bl) | exact BlV.ls (bl_rows csb_bl) | exact BlV.ro (Entry.bl _) | exact BlV.ro (cib_bl _) | exact BlV.ro (csb_bl _) | refine BlV.agg ?_ | refine fa_cons ?_ ?_)) rfl rfl rfl ?_
                      refine xb_end ?_
                      refine y_nf ?_
                      refine y_region rfl rfl ?_
                      refine xb_run zbs 3 rfl rfl ?_
                      refine xb_end ?_
                      cases h
                      exact ⟨(fwrap .i64 (v24 + 1)), rfl, SubW.cons rfl .refl (SubW.cons rfl .refl (SubW.cons rfl .refl (SubW.cons rfl .refl (SubW.cons rfl .refl (SubW.cons rfl .refl (SubW.cons rfl .refl (SubW.cons rfl .refl SubW.nil))))))), SubC'.cons rfl .refl (SubC'.cons rfl .refl (SubC'.cons rfl .refl SubC'.nil)), SubC'.nil, rfl⟩
                    · replace h := condF h hc
                      cases h
                      refine y_exit ⟨_, rfl, fun h => ?_⟩
                      exact ⟨(v24, (decide (v24 < (len x26.Config.Voters)))), SubW.cons rfl .refl (SubW.cons rfl .refl (SubW.cons rfl .refl (SubW.cons rfl .refl (SubW.cons rfl .refl (SubW.cons rfl .refl (SubW.cons rfl .refl (SubW.cons rfl .refl (SubW.cons rfl .refl SubW.nil)))))))), SubC'.cons rfl .refl (SubC'.cons rfl .refl (SubC'.cons rfl .refl SubC'.nil)), SubC'.nil, rfl, h⟩
                  · intro v18 v19 h
                    subst hJ20
                    refine y_region rfl rfl ?_
                    refine xb_run zbs 3 rfl rfl ?_
                    refine xb_end ?_
                    cases h
                    exact ⟨(fwrap .i64 (v16 + 1)), rfl, SubW.cons rfl .refl (SubW.cons rfl .refl (SubW.cons rfl .refl (SubW.cons rfl .refl (SubW.cons rfl .refl (SubW.cons rfl .refl SubW.nil))))), SubC'.cons rfl .refl (SubC'.cons rfl .refl (SubC'.cons rfl .refl SubC'.nil)), SubC'.nil, rfl⟩
                · replace h := condF h hc
                  cases h
                  refine y_exit ⟨_, rfl, fun h => ?_⟩
                  exact ⟨(), SubW.cons rfl .refl (SubW.cons rfl .refl (SubW.cons rfl .refl (SubW.cons rfl .refl (SubW.cons rfl .refl SubW.nil)))), SubC'.cons rfl .refl (SubC'.cons rfl .refl (SubC'.cons rfl .refl SubC'.nil)), SubC'.nil, rfl, h⟩
              · intro h
                subst hJ14
                obtain ⟨J32, hJ32, h⟩ := jnE h
                refine y_join0 (df' := []) [(2, .lr 2 0), (4, .v (.bool false)), (5, .lr 5 0), (10, .v (.bool v9))] ([(2, (Kept.cells 1 a0)), (5, [.int .i64 r3.Term, .int .i64 r3.Vote, .int .i64 r3.Snap.Index, .int .i64 r3.Snap.Term, .ls (List.map ci r3.Snap.Config.Voters) 1 0 16, .ls (List.map ci r3.Snap.Config.Learners) 1 0 16, .str r3.Snap.Data, .ls (List.map Entry.row r3.Entries) 6 4 16])]) [] (J32 = some y) ?_ ?_
                · refine y_seq ?_
                  refine y_region rfl rfl ?_
                  refine xb_run zbs 1 rfl rfl ?_
                  refine xb_end ?_
                  refine y_nf ?_
                  refine y_block ?_
                  refine y_lp1 h (fun (v34 : Int) => [(2, .lr 2 0), (4, .v (.bool false)), (5, .lr 5 0), (6, .lr 6 0), (10, .v (.bool v9)), (13, .v (.int .i64 v34))]) (fun (v34 : Int) => [(2, (Kept.cells 1 a0)), (5, [.int .i64 r3.Term, .int .i64 r3.Vote, .int .i64 r3.Snap.Index, .int .i64 r3.Snap.Term, .ls (List.map ci r3.Snap.Config.Voters) 1 0 16, .ls (List.map ci r3.Snap.Config.Learners) 1 0 16, .str r3.Snap.Data, .ls (List.map Entry.row r3.Entries) 6 4 16]), (6, [.int .i64 r5.1.Term, .int .i64 r5.1.Vote, .int .i64 r5.1.Snap.Index, .int .i64 r5.1.Snap.Term, .ls (List.map cib r5.1.Snap.Config.Voters) 1 0 32, .ls (List.map cib r5.1.Snap.Config.Learners) 1 0 32, .str r5.1.Snap.Data, .ls (List.map Entry.brow r5.1.Entries) 6 0 32])]) (fun (v34 : Int) => []) (SubW.cons rfl .refl (SubW.cons rfl .refl (SubW.cons rfl .refl (SubW.cons rfl .refl (SubW.cons rfl .refl (SubW.cons rfl .refl SubW.nil)))))) (SubC'.cons rfl .refl (SubC'.cons rfl .refl (SubC'.cons rfl .refl SubC'.nil))) SubC'.nil ?_
                  intro v34 w35 h
                  refine y_seq ?_
                  refine y_seq ?_
                  refine y_region rfl rfl ?_
                  refine xb_run zbs 5 rfl rfl ?_
                  refine xb_pure rfl (pLenB rfl rfl rfl rfl rfl) rfl rfl rfl rfl ?_
                  refine xb_run zbs 1 rfl rfl ?_
                  refine xb_end ?_
                  refine y_nf ?_
                  refine y_cond rfl (fun hc => ?_) (fun hc => ?_)
                  · replace h := condT h hc
                    refine y_skip ?_
                    refine y_nf ?_
                    refine y_seq ?_
                    refine y_block ?_
                    refine y_region rfl rfl ?_
                    refine xb_run zbs 5 rfl rfl ?_
                    obtain ⟨x36, hx37, h⟩ := bnd h
                    refine xb_pure rfl (pIdxB rfl rfl rfl rfl hx37) rfl rfl rfl rfl ?_
                    refine xb_storeW (ZB := zbs) (k := 5) rfl rfl rfl rfl rfl rfl rfl rfl rfl rfl (.inl rfl) (by repeat' (first | exact fa_nil | exact trivial | exact BlV.free rfl | exact BlV.ls (bl_rows Entry.bl) | exact BlV.ls (bl_rows cib_bl) | exact BlV.ls (bl_rows csb_bl) | exact BlV.ro (Entry.bl _) | exact BlV.ro (cib_bl _) | exact BlV.ro (csb_bl _) | refine BlV.agg ?_ | refine fa_cons ?_ ?_)) (by repeat' (first | exact fa_nil | exact trivial | exact BlV.free rfl | exact BlV.ls (bl_rows Entry.bl) | exact BlV.ls (bl_rows cib_bl) | exact BlV.ls (bl_rows csb_bl) | exact BlV.ro (Entry.bl _) | exact BlV.ro (cib_bl _) | exact BlV.ro (csb_bl _) | refine BlV.agg ?_ | refine fa_cons ?_ ?_)) (by repeat' (first | exact fa_nil | exact trivial | exact BlV.free rfl | exact BlV.ls (bl_rows Entry.bl) | exact BlV.ls (bl_rows cib_bl) | exact BlV.ls (bl_rows csb_bl) | exact BlV.ro (Entry.bl _) | exact BlV.ro (cib_bl _) | exact BlV.ro (csb_bl _) | refine BlV.agg ?_ | refine fa_cons ?_ ?_)) (by repeat' (first | exact fa_nil | exact trivial | exact BlV.free rfl | exact BlV.ls (bl_rows Entry.bl) | exact BlV.ls (bl_rows cib_bl) | exact BlV.ls (bl_rows csb_bl) | exact BlV.ro (Entry.bl _) | exact BlV.ro (cib_bl _) | exact BlV.ro (csb_bl _) | refine BlV.agg ?_ | refine fa_cons ?_ ?_)) (by repeat' (first | exact fa_nil | exact trivial | exact BlV.free rfl | exact BlV.ls (bl_rows Entry.bl) | exact BlV.ls (bl_rows cib_bl) | exact BlV.ls (bl_rows csb_bl) | exact BlV.ro (Entry.bl _) | exact BlV.ro (cib_bl _) | exact BlV.ro (csb_bl _) | refine BlV.agg ?_ | refine fa_cons ?_ ?_)) rfl rfl rfl ?_
                    refine xb_end ?_
                    refine y_nf ?_
                    refine y_region rfl rfl ?_
                    refine xb_run zbs 3 rfl rfl ?_
                    refine xb_end ?_
                    cases h
                    exact ⟨(fwrap .i64 (v34 + 1)), rfl, SubW.cons rfl .refl (SubW.cons rfl .refl (SubW.cons rfl .refl (SubW.cons rfl .refl (SubW.cons rfl .refl (SubW.cons rfl .refl SubW.nil))))), SubC'.cons rfl .refl (SubC'.cons rfl .refl (SubC'.cons rfl .refl SubC'.nil)), SubC'.nil, rfl⟩
                  · replace h := condF h hc
                    cases h
                    refine y_exit ⟨_, rfl, fun h => ?_⟩
                    exact ⟨(), SubW.cons rfl .refl (SubW.cons rfl .refl (SubW.cons rfl .refl (SubW.cons rfl .refl SubW.nil))), SubC'.cons rfl .refl (SubC'.cons rfl .refl SubC'.nil), SubC'.nil, rfl, h⟩
                · intro h
                  subst hJ32
                  obtain ⟨J39, hJ39, h⟩ := jnE h
                  refine y_join1 (df' := []) (fun (v38 : Bool) => [(4, .v (.bool v38))]) (fun (v38 : Bool) => []) (fun (v38 : Bool) => []) (fun (v38 : Bool) => J39 v38 = some y) ?_ ?_
                  · refine y_region rfl rfl ?_
                    obtain ⟨r40, hf41, h⟩ := bnd h
                    refine xb_call (ZB := zbs) (P := noP) ⟨[], [], [], 0, 8⟩ rfl rfl rfl rfl rfl rfl rfl rfl rfl rfl (f10_ok  _ hf41) rfl rfl rfl (fun v obr hq => ?_) (fun v obr hq => ?_)
                    · obtain ⟨hv, rfl⟩ := hq
                      cases hv
                      refine xb_re (v' := .bool r40) (lo' := [(2, (Kept.cells 1 a0)), (5, [.int .i64 r3.Term, .int .i64 r3.Vote, .int .i64 r3.Snap.Index, .int .i64 r3.Snap.Term, .ls (List.map ci r3.Snap.Config.Voters) 1 0 16, .ls (List.map ci r3.Snap.Config.Learners) 1 0 16, .str r3.Snap.Data, .ls (List.map Entry.row r3.Entries) 6 4 16])]) (ob' := []) rfl rfl rfl ?_
                      refine xb_run zbs 1 rfl rfl ?_
                      cases hg42 : r40 with
                      | false =>
                        replace h := condF h hg42
                        refine xb_run zbs 8 rfl rfl ?_
                        refine xb_end ?_
                        exact ⟨false, SubW.cons rfl .refl SubW.nil, SubC'.nil, SubC'.nil, rfl, h⟩
                      | true =>
                        replace h := condT h hg42
                        refine xb_run zbs 3 rfl rfl ?_
                        cases hg43 : v9 with
                        | false =>
                          replace h := condF h hg43
                          refine xb_run zbs 5 rfl rfl ?_
                          refine xb_end ?_
                          exact ⟨false, SubW.cons rfl .refl SubW.nil, SubC'.nil, SubC'.nil, rfl, h⟩
                        | true =>
                          replace h := condT h hg43
                          refine xb_run zbs 2 rfl rfl ?_
                          obtain ⟨r44, hf45, h⟩ := bnd h
                          refine xb_call (ZB := zbs) (P := noP) ⟨[], [], [], 25, 9⟩ rfl rfl rfl rfl rfl rfl rfl rfl rfl rfl (f9_ok a0 r3 _ hf45) rfl rfl rfl (fun v obr hq => ?_) (fun v obr hq => ?_)
                          · obtain ⟨hv, rfl⟩ := hq
                            cases hv
                            refine xb_re (v' := .bool r44) (lo' := [(2, (Kept.cells 1 a0)), (5, [.int .i64 r3.Term, .int .i64 r3.Vote, .int .i64 r3.Snap.Index, .int .i64 r3.Snap.Term, .ls (List.map ci r3.Snap.Config.Voters) 1 0 16, .ls (List.map ci r3.Snap.Config.Learners) 1 0 16, .str r3.Snap.Data, .ls (List.map Entry.row r3.Entries) 6 4 16])]) (ob' := []) rfl rfl rfl ?_
                            refine xb_run zbs 2 rfl rfl ?_
                            refine xb_end ?_
                            exact ⟨r44, SubW.cons rfl .refl SubW.nil, SubC'.nil, SubC'.nil, rfl, h⟩
                          · obtain ⟨hv, _⟩ := hq
                            cases hv
                    · obtain ⟨hv, _⟩ := hq
                      cases hv
                  · intro v38 h
                    subst hJ39
                    cases h
                    refine y_ret ?_
                    exact ends_retB 0 rfl rfl Has.nil ⟨rfl, rfl⟩
          · obtain ⟨hv, _⟩ := hq
            cases hv
        · obtain ⟨hv, _⟩ := hq
          cases hv
      · obtain ⟨hv, _⟩ := hq
        cases hv
  · obtain ⟨hv, _⟩ := hq
    cases hv
end Go.Eng.Try
