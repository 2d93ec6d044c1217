/- The modes: Join, and the reference's. -/
import Derived.Test.YtjnbbmchmkiodaaTog
namespace Go.Proofs.Ytjnbbmchmkiodaa
open Go.RowKit

theorem joinI_no {a b : Int} (h : ¬ (isM a = true ∧ isM b = true)) : joinI a b = 0 := by
  unfold joinI
  rw [if_neg (by simpa using h)]

theorem rtog_11 (w : World) : Calls Try.prog 13 #[.int .i64 1, .int .i64 1] w fun e w' => e = .returned (.bool true) ∧ Chg NoB w w' := by
  go_enter Try.func13, Try.ntmps13
  go_wp2_with fail
  go_ret
  exact ⟨by first | rfl | decide, Chg.alloc _ _ _⟩
theorem rtog_12 (w : World) : Calls Try.prog 13 #[.int .i64 1, .int .i64 2] w fun e w' => e = .returned (.bool true) ∧ Chg NoB w w' := by
  go_enter Try.func13, Try.ntmps13
  go_wp2_with fail
  go_ret
  exact ⟨by first | rfl | decide, Chg.alloc _ _ _⟩
theorem rtog_13 (w : World) : Calls Try.prog 13 #[.int .i64 1, .int .i64 3] w fun e w' => e = .returned (.bool true) ∧ Chg NoB w w' := by
  go_enter Try.func13, Try.ntmps13
  go_wp2_with fail
  go_ret
  exact ⟨by first | rfl | decide, Chg.alloc _ _ _⟩
theorem rtog_14 (w : World) : Calls Try.prog 13 #[.int .i64 1, .int .i64 4] w fun e w' => e = .returned (.bool false) ∧ Chg NoB w w' := by
  go_enter Try.func13, Try.ntmps13
  go_wp2_with fail
  go_ret
  exact ⟨by first | rfl | decide, Chg.alloc _ _ _⟩
theorem rtog_21 (w : World) : Calls Try.prog 13 #[.int .i64 2, .int .i64 1] w fun e w' => e = .returned (.bool true) ∧ Chg NoB w w' := by
  go_enter Try.func13, Try.ntmps13
  go_wp2_with fail
  go_ret
  exact ⟨by first | rfl | decide, Chg.alloc _ _ _⟩
theorem rtog_22 (w : World) : Calls Try.prog 13 #[.int .i64 2, .int .i64 2] w fun e w' => e = .returned (.bool true) ∧ Chg NoB w w' := by
  go_enter Try.func13, Try.ntmps13
  go_wp2_with fail
  go_ret
  exact ⟨by first | rfl | decide, Chg.alloc _ _ _⟩
theorem rtog_23 (w : World) : Calls Try.prog 13 #[.int .i64 2, .int .i64 3] w fun e w' => e = .returned (.bool false) ∧ Chg NoB w w' := by
  go_enter Try.func13, Try.ntmps13
  go_wp2_with fail
  go_ret
  exact ⟨by first | rfl | decide, Chg.alloc _ _ _⟩
theorem rtog_24 (w : World) : Calls Try.prog 13 #[.int .i64 2, .int .i64 4] w fun e w' => e = .returned (.bool false) ∧ Chg NoB w w' := by
  go_enter Try.func13, Try.ntmps13
  go_wp2_with fail
  go_ret
  exact ⟨by first | rfl | decide, Chg.alloc _ _ _⟩
theorem rtog_31 (w : World) : Calls Try.prog 13 #[.int .i64 3, .int .i64 1] w fun e w' => e = .returned (.bool true) ∧ Chg NoB w w' := by
  go_enter Try.func13, Try.ntmps13
  go_wp2_with fail
  go_ret
  exact ⟨by first | rfl | decide, Chg.alloc _ _ _⟩
theorem rtog_32 (w : World) : Calls Try.prog 13 #[.int .i64 3, .int .i64 2] w fun e w' => e = .returned (.bool false) ∧ Chg NoB w w' := by
  go_enter Try.func13, Try.ntmps13
  go_wp2_with fail
  go_ret
  exact ⟨by first | rfl | decide, Chg.alloc _ _ _⟩
theorem rtog_33 (w : World) : Calls Try.prog 13 #[.int .i64 3, .int .i64 3] w fun e w' => e = .returned (.bool true) ∧ Chg NoB w w' := by
  go_enter Try.func13, Try.ntmps13
  go_wp2_with fail
  go_ret
  exact ⟨by first | rfl | decide, Chg.alloc _ _ _⟩
theorem rtog_34 (w : World) : Calls Try.prog 13 #[.int .i64 3, .int .i64 4] w fun e w' => e = .returned (.bool false) ∧ Chg NoB w w' := by
  go_enter Try.func13, Try.ntmps13
  go_wp2_with fail
  go_ret
  exact ⟨by first | rfl | decide, Chg.alloc _ _ _⟩
theorem rtog_41 (w : World) : Calls Try.prog 13 #[.int .i64 4, .int .i64 1] w fun e w' => e = .returned (.bool false) ∧ Chg NoB w w' := by
  go_enter Try.func13, Try.ntmps13
  go_wp2_with fail
  go_ret
  exact ⟨by first | rfl | decide, Chg.alloc _ _ _⟩
theorem rtog_42 (w : World) : Calls Try.prog 13 #[.int .i64 4, .int .i64 2] w fun e w' => e = .returned (.bool false) ∧ Chg NoB w w' := by
  go_enter Try.func13, Try.ntmps13
  go_wp2_with fail
  go_ret
  exact ⟨by first | rfl | decide, Chg.alloc _ _ _⟩
theorem rtog_43 (w : World) : Calls Try.prog 13 #[.int .i64 4, .int .i64 3] w fun e w' => e = .returned (.bool false) ∧ Chg NoB w w' := by
  go_enter Try.func13, Try.ntmps13
  go_wp2_with fail
  go_ret
  exact ⟨by first | rfl | decide, Chg.alloc _ _ _⟩
theorem rtog_44 (w : World) : Calls Try.prog 13 #[.int .i64 4, .int .i64 4] w fun e w' => e = .returned (.bool false) ∧ Chg NoB w w' := by
  go_enter Try.func13, Try.ntmps13
  go_wp2_with fail
  go_ret
  exact ⟨by first | rfl | decide, Chg.alloc _ _ _⟩
theorem rjoin_11 (w : World) : Calls Try.prog 15 #[.int .i64 1, .int .i64 1] w fun e w' => e = .returned (.int .i64 1) ∧ w = w' := by
  go_enter Try.func15, Try.ntmps15
  go_wp2_with fail
  go_ret
  exact ⟨rfl, rfl⟩
theorem join_11 (w : World) : Calls Try.prog 14 #[.int .i64 1, .int .i64 1] w fun e w' => e = .returned (.int .i64 1) ∧ w = w' := by
  go_enter Try.func14, Try.ntmps14
  go_wp2_with fail
  refine (isMode_calls 1 _).mono ?_
  rw [show isM 1 = true by decide]
  rintro e w' ⟨rfl, rfl⟩
  go_wp2_with fail
  refine (isMode_calls 1 _).mono ?_
  rw [show isM 1 = true by decide]
  rintro e w' ⟨rfl, rfl⟩
  go_wp2_with fail
  go_ret
  exact ⟨rfl, rfl⟩
theorem rjoin_12 (w : World) : Calls Try.prog 15 #[.int .i64 1, .int .i64 2] w fun e w' => e = .returned (.int .i64 2) ∧ w = w' := by
  go_enter Try.func15, Try.ntmps15
  go_wp2_with fail
  go_ret
  exact ⟨rfl, rfl⟩
theorem join_12 (w : World) : Calls Try.prog 14 #[.int .i64 1, .int .i64 2] w fun e w' => e = .returned (.int .i64 2) ∧ w = w' := by
  go_enter Try.func14, Try.ntmps14
  go_wp2_with fail
  refine (isMode_calls 1 _).mono ?_
  rw [show isM 1 = true by decide]
  rintro e w' ⟨rfl, rfl⟩
  go_wp2_with fail
  refine (isMode_calls 2 _).mono ?_
  rw [show isM 2 = true by decide]
  rintro e w' ⟨rfl, rfl⟩
  go_wp2_with fail
  go_ret
  exact ⟨rfl, rfl⟩
theorem rjoin_13 (w : World) : Calls Try.prog 15 #[.int .i64 1, .int .i64 3] w fun e w' => e = .returned (.int .i64 3) ∧ w = w' := by
  go_enter Try.func15, Try.ntmps15
  go_wp2_with fail
  go_ret
  exact ⟨rfl, rfl⟩
theorem join_13 (w : World) : Calls Try.prog 14 #[.int .i64 1, .int .i64 3] w fun e w' => e = .returned (.int .i64 3) ∧ w = w' := by
  go_enter Try.func14, Try.ntmps14
  go_wp2_with fail
  refine (isMode_calls 1 _).mono ?_
  rw [show isM 1 = true by decide]
  rintro e w' ⟨rfl, rfl⟩
  go_wp2_with fail
  refine (isMode_calls 3 _).mono ?_
  rw [show isM 3 = true by decide]
  rintro e w' ⟨rfl, rfl⟩
  go_wp2_with fail
  go_ret
  exact ⟨rfl, rfl⟩
theorem rjoin_14 (w : World) : Calls Try.prog 15 #[.int .i64 1, .int .i64 4] w fun e w' => e = .returned (.int .i64 4) ∧ w = w' := by
  go_enter Try.func15, Try.ntmps15
  go_wp2_with fail
  go_ret
  exact ⟨rfl, rfl⟩
theorem join_14 (w : World) : Calls Try.prog 14 #[.int .i64 1, .int .i64 4] w fun e w' => e = .returned (.int .i64 4) ∧ w = w' := by
  go_enter Try.func14, Try.ntmps14
  go_wp2_with fail
  refine (isMode_calls 1 _).mono ?_
  rw [show isM 1 = true by decide]
  rintro e w' ⟨rfl, rfl⟩
  go_wp2_with fail
  refine (isMode_calls 4 _).mono ?_
  rw [show isM 4 = true by decide]
  rintro e w' ⟨rfl, rfl⟩
  go_wp2_with fail
  go_ret
  exact ⟨rfl, rfl⟩
theorem rjoin_21 (w : World) : Calls Try.prog 15 #[.int .i64 2, .int .i64 1] w fun e w' => e = .returned (.int .i64 2) ∧ w = w' := by
  go_enter Try.func15, Try.ntmps15
  go_wp2_with fail
  go_ret
  exact ⟨rfl, rfl⟩
theorem join_21 (w : World) : Calls Try.prog 14 #[.int .i64 2, .int .i64 1] w fun e w' => e = .returned (.int .i64 2) ∧ w = w' := by
  go_enter Try.func14, Try.ntmps14
  go_wp2_with fail
  refine (isMode_calls 1 _).mono ?_
  rw [show isM 1 = true by decide]
  rintro e w' ⟨rfl, rfl⟩
  go_wp2_with fail
  refine (isMode_calls 2 _).mono ?_
  rw [show isM 2 = true by decide]
  rintro e w' ⟨rfl, rfl⟩
  go_wp2_with fail
  go_ret
  exact ⟨rfl, rfl⟩
theorem rjoin_22 (w : World) : Calls Try.prog 15 #[.int .i64 2, .int .i64 2] w fun e w' => e = .returned (.int .i64 2) ∧ w = w' := by
  go_enter Try.func15, Try.ntmps15
  go_wp2_with fail
  go_ret
  exact ⟨rfl, rfl⟩
theorem join_22 (w : World) : Calls Try.prog 14 #[.int .i64 2, .int .i64 2] w fun e w' => e = .returned (.int .i64 2) ∧ w = w' := by
  go_enter Try.func14, Try.ntmps14
  go_wp2_with fail
  refine (isMode_calls 2 _).mono ?_
  rw [show isM 2 = true by decide]
  rintro e w' ⟨rfl, rfl⟩
  go_wp2_with fail
  refine (isMode_calls 2 _).mono ?_
  rw [show isM 2 = true by decide]
  rintro e w' ⟨rfl, rfl⟩
  go_wp2_with fail
  go_ret
  exact ⟨rfl, rfl⟩
theorem rjoin_23 (w : World) : Calls Try.prog 15 #[.int .i64 2, .int .i64 3] w fun e w' => e = .returned (.int .i64 4) ∧ w = w' := by
  go_enter Try.func15, Try.ntmps15
  go_wp2_with fail
  go_ret
  exact ⟨rfl, rfl⟩
theorem join_23 (w : World) : Calls Try.prog 14 #[.int .i64 2, .int .i64 3] w fun e w' => e = .returned (.int .i64 4) ∧ w = w' := by
  go_enter Try.func14, Try.ntmps14
  go_wp2_with fail
  refine (isMode_calls 2 _).mono ?_
  rw [show isM 2 = true by decide]
  rintro e w' ⟨rfl, rfl⟩
  go_wp2_with fail
  refine (isMode_calls 3 _).mono ?_
  rw [show isM 3 = true by decide]
  rintro e w' ⟨rfl, rfl⟩
  go_wp2_with fail
  go_ret
  exact ⟨rfl, rfl⟩
theorem rjoin_24 (w : World) : Calls Try.prog 15 #[.int .i64 2, .int .i64 4] w fun e w' => e = .returned (.int .i64 4) ∧ w = w' := by
  go_enter Try.func15, Try.ntmps15
  go_wp2_with fail
  go_ret
  exact ⟨rfl, rfl⟩
theorem join_24 (w : World) : Calls Try.prog 14 #[.int .i64 2, .int .i64 4] w fun e w' => e = .returned (.int .i64 4) ∧ w = w' := by
  go_enter Try.func14, Try.ntmps14
  go_wp2_with fail
  refine (isMode_calls 2 _).mono ?_
  rw [show isM 2 = true by decide]
  rintro e w' ⟨rfl, rfl⟩
  go_wp2_with fail
  refine (isMode_calls 4 _).mono ?_
  rw [show isM 4 = true by decide]
  rintro e w' ⟨rfl, rfl⟩
  go_wp2_with fail
  go_ret
  exact ⟨rfl, rfl⟩
theorem rjoin_31 (w : World) : Calls Try.prog 15 #[.int .i64 3, .int .i64 1] w fun e w' => e = .returned (.int .i64 3) ∧ w = w' := by
  go_enter Try.func15, Try.ntmps15
  go_wp2_with fail
  go_ret
  exact ⟨rfl, rfl⟩
theorem join_31 (w : World) : Calls Try.prog 14 #[.int .i64 3, .int .i64 1] w fun e w' => e = .returned (.int .i64 3) ∧ w = w' := by
  go_enter Try.func14, Try.ntmps14
  go_wp2_with fail
  refine (isMode_calls 1 _).mono ?_
  rw [show isM 1 = true by decide]
  rintro e w' ⟨rfl, rfl⟩
  go_wp2_with fail
  refine (isMode_calls 3 _).mono ?_
  rw [show isM 3 = true by decide]
  rintro e w' ⟨rfl, rfl⟩
  go_wp2_with fail
  go_ret
  exact ⟨rfl, rfl⟩
theorem rjoin_32 (w : World) : Calls Try.prog 15 #[.int .i64 3, .int .i64 2] w fun e w' => e = .returned (.int .i64 4) ∧ w = w' := by
  go_enter Try.func15, Try.ntmps15
  go_wp2_with fail
  go_ret
  exact ⟨rfl, rfl⟩
theorem join_32 (w : World) : Calls Try.prog 14 #[.int .i64 3, .int .i64 2] w fun e w' => e = .returned (.int .i64 4) ∧ w = w' := by
  go_enter Try.func14, Try.ntmps14
  go_wp2_with fail
  refine (isMode_calls 2 _).mono ?_
  rw [show isM 2 = true by decide]
  rintro e w' ⟨rfl, rfl⟩
  go_wp2_with fail
  refine (isMode_calls 3 _).mono ?_
  rw [show isM 3 = true by decide]
  rintro e w' ⟨rfl, rfl⟩
  go_wp2_with fail
  go_ret
  exact ⟨rfl, rfl⟩
theorem rjoin_33 (w : World) : Calls Try.prog 15 #[.int .i64 3, .int .i64 3] w fun e w' => e = .returned (.int .i64 3) ∧ w = w' := by
  go_enter Try.func15, Try.ntmps15
  go_wp2_with fail
  go_ret
  exact ⟨rfl, rfl⟩
theorem join_33 (w : World) : Calls Try.prog 14 #[.int .i64 3, .int .i64 3] w fun e w' => e = .returned (.int .i64 3) ∧ w = w' := by
  go_enter Try.func14, Try.ntmps14
  go_wp2_with fail
  refine (isMode_calls 3 _).mono ?_
  rw [show isM 3 = true by decide]
  rintro e w' ⟨rfl, rfl⟩
  go_wp2_with fail
  refine (isMode_calls 3 _).mono ?_
  rw [show isM 3 = true by decide]
  rintro e w' ⟨rfl, rfl⟩
  go_wp2_with fail
  go_ret
  exact ⟨rfl, rfl⟩
theorem rjoin_34 (w : World) : Calls Try.prog 15 #[.int .i64 3, .int .i64 4] w fun e w' => e = .returned (.int .i64 4) ∧ w = w' := by
  go_enter Try.func15, Try.ntmps15
  go_wp2_with fail
  go_ret
  exact ⟨rfl, rfl⟩
theorem join_34 (w : World) : Calls Try.prog 14 #[.int .i64 3, .int .i64 4] w fun e w' => e = .returned (.int .i64 4) ∧ w = w' := by
  go_enter Try.func14, Try.ntmps14
  go_wp2_with fail
  refine (isMode_calls 3 _).mono ?_
  rw [show isM 3 = true by decide]
  rintro e w' ⟨rfl, rfl⟩
  go_wp2_with fail
  refine (isMode_calls 4 _).mono ?_
  rw [show isM 4 = true by decide]
  rintro e w' ⟨rfl, rfl⟩
  go_wp2_with fail
  go_ret
  exact ⟨rfl, rfl⟩
theorem rjoin_41 (w : World) : Calls Try.prog 15 #[.int .i64 4, .int .i64 1] w fun e w' => e = .returned (.int .i64 4) ∧ w = w' := by
  go_enter Try.func15, Try.ntmps15
  go_wp2_with fail
  go_ret
  exact ⟨rfl, rfl⟩
theorem join_41 (w : World) : Calls Try.prog 14 #[.int .i64 4, .int .i64 1] w fun e w' => e = .returned (.int .i64 4) ∧ w = w' := by
  go_enter Try.func14, Try.ntmps14
  go_wp2_with fail
  refine (isMode_calls 1 _).mono ?_
  rw [show isM 1 = true by decide]
  rintro e w' ⟨rfl, rfl⟩
  go_wp2_with fail
  refine (isMode_calls 4 _).mono ?_
  rw [show isM 4 = true by decide]
  rintro e w' ⟨rfl, rfl⟩
  go_wp2_with fail
  go_ret
  exact ⟨rfl, rfl⟩
theorem rjoin_42 (w : World) : Calls Try.prog 15 #[.int .i64 4, .int .i64 2] w fun e w' => e = .returned (.int .i64 4) ∧ w = w' := by
  go_enter Try.func15, Try.ntmps15
  go_wp2_with fail
  go_ret
  exact ⟨rfl, rfl⟩
theorem join_42 (w : World) : Calls Try.prog 14 #[.int .i64 4, .int .i64 2] w fun e w' => e = .returned (.int .i64 4) ∧ w = w' := by
  go_enter Try.func14, Try.ntmps14
  go_wp2_with fail
  refine (isMode_calls 2 _).mono ?_
  rw [show isM 2 = true by decide]
  rintro e w' ⟨rfl, rfl⟩
  go_wp2_with fail
  refine (isMode_calls 4 _).mono ?_
  rw [show isM 4 = true by decide]
  rintro e w' ⟨rfl, rfl⟩
  go_wp2_with fail
  go_ret
  exact ⟨rfl, rfl⟩
theorem rjoin_43 (w : World) : Calls Try.prog 15 #[.int .i64 4, .int .i64 3] w fun e w' => e = .returned (.int .i64 4) ∧ w = w' := by
  go_enter Try.func15, Try.ntmps15
  go_wp2_with fail
  go_ret
  exact ⟨rfl, rfl⟩
theorem join_43 (w : World) : Calls Try.prog 14 #[.int .i64 4, .int .i64 3] w fun e w' => e = .returned (.int .i64 4) ∧ w = w' := by
  go_enter Try.func14, Try.ntmps14
  go_wp2_with fail
  refine (isMode_calls 3 _).mono ?_
  rw [show isM 3 = true by decide]
  rintro e w' ⟨rfl, rfl⟩
  go_wp2_with fail
  refine (isMode_calls 4 _).mono ?_
  rw [show isM 4 = true by decide]
  rintro e w' ⟨rfl, rfl⟩
  go_wp2_with fail
  go_ret
  exact ⟨rfl, rfl⟩
theorem rjoin_44 (w : World) : Calls Try.prog 15 #[.int .i64 4, .int .i64 4] w fun e w' => e = .returned (.int .i64 4) ∧ w = w' := by
  go_enter Try.func15, Try.ntmps15
  go_wp2_with fail
  go_ret
  exact ⟨rfl, rfl⟩
theorem join_44 (w : World) : Calls Try.prog 14 #[.int .i64 4, .int .i64 4] w fun e w' => e = .returned (.int .i64 4) ∧ w = w' := by
  go_enter Try.func14, Try.ntmps14
  go_wp2_with fail
  refine (isMode_calls 4 _).mono ?_
  rw [show isM 4 = true by decide]
  rintro e w' ⟨rfl, rfl⟩
  go_wp2_with fail
  refine (isMode_calls 4 _).mono ?_
  rw [show isM 4 = true by decide]
  rintro e w' ⟨rfl, rfl⟩
  go_wp2_with fail
  go_ret
  exact ⟨rfl, rfl⟩

theorem not_modes {a b : Int} (h : ¬ (isM a = true ∧ isM b = true)) : a < 1 ∨ (¬ a < 1 ∧ 4 < a) ∨ (¬ a < 1 ∧ ¬ 4 < a ∧ b < 1) ∨ (¬ a < 1 ∧ ¬ 4 < a ∧ ¬ b < 1 ∧ 4 < b) := by
  simp only [isM, decide_eq_true_eq] at h
  omega
theorem rtog_no {a b : Int} (h : ¬ (isM a = true ∧ isM b = true)) (w : World) : Calls Try.prog 13 #[.int .i64 a, .int .i64 b] w fun e w' => e = .returned (.bool false) ∧ Chg NoB w w' := by
  rcases not_modes h with h1 | ⟨h0, h1⟩ | ⟨h0, h1, h2⟩ | ⟨h0, h1, h2, h3⟩
  all_goals
    clear h
    go_enter Try.func13, Try.ntmps13
    go_wp2_with fail
    go_ret
    exact ⟨rfl, Chg.refl _ _⟩
theorem rjoin_no {a b : Int} (h : ¬ (isM a = true ∧ isM b = true)) (w : World) : Calls Try.prog 15 #[.int .i64 a, .int .i64 b] w fun e w' => e = .returned (.int .i64 0) ∧ w = w' := by
  rcases not_modes h with h1 | ⟨h0, h1⟩ | ⟨h0, h1, h2⟩ | ⟨h0, h1, h2, h3⟩
  all_goals
    clear h
    go_enter Try.func15, Try.ntmps15
    go_wp2_with fail
    go_ret
    exact ⟨rfl, rfl⟩
theorem join_no_lt {a b : Int} (h1 : a < b) (h2 : ¬ b < a) (h : ¬ (isM a = true ∧ isM b = true)) (w : World) : Calls Try.prog 14 #[.int .i64 a, .int .i64 b] w fun e w' => e = .returned (.int .i64 0) ∧ w = w' := by
  cases hm : isM a
  · have HM := hide hm
    clear hm h
    go_enter Try.func14, Try.ntmps14
    go_wp2_with fail
    refine (isMode_calls a _).mono ?_
    rw [HM.out]
    rintro e w' ⟨rfl, rfl⟩
    go_wp2_with fail
    go_ret
    exact ⟨rfl, rfl⟩
  · have hx : isM b = false := by
      cases hx : isM b
      · rfl
      · exact absurd ⟨hm, hx⟩ h
    have HM := hide hm; have HX := hide hx
    clear hm h hx
    go_enter Try.func14, Try.ntmps14
    go_wp2_with fail
    refine (isMode_calls a _).mono ?_
    rw [HM.out]
    rintro e w' ⟨rfl, rfl⟩
    go_wp2_with fail
    refine (isMode_calls b _).mono ?_
    rw [HX.out]
    rintro e w' ⟨rfl, rfl⟩
    go_wp2_with fail
    go_ret
    exact ⟨rfl, rfl⟩
theorem join_no_gt {a b : Int} (h1 : ¬ a < b) (h2 : b < a) (h : ¬ (isM b = true ∧ isM a = true)) (w : World) : Calls Try.prog 14 #[.int .i64 a, .int .i64 b] w fun e w' => e = .returned (.int .i64 0) ∧ w = w' := by
  cases hm : isM b
  · have HM := hide hm
    clear hm h
    go_enter Try.func14, Try.ntmps14
    go_wp2_with fail
    refine (isMode_calls b _).mono ?_
    rw [HM.out]
    rintro e w' ⟨rfl, rfl⟩
    go_wp2_with fail
    go_ret
    exact ⟨rfl, rfl⟩
  · have hx : isM a = false := by
      cases hx : isM a
      · rfl
      · exact absurd ⟨hm, hx⟩ h
    have HM := hide hm; have HX := hide hx
    clear hm h hx
    go_enter Try.func14, Try.ntmps14
    go_wp2_with fail
    refine (isMode_calls b _).mono ?_
    rw [HM.out]
    rintro e w' ⟨rfl, rfl⟩
    go_wp2_with fail
    refine (isMode_calls a _).mono ?_
    rw [HX.out]
    rintro e w' ⟨rfl, rfl⟩
    go_wp2_with fail
    go_ret
    exact ⟨rfl, rfl⟩
theorem join_no_eq {a b : Int} (h1 : ¬ a < b) (h2 : ¬ b < a) (h3 : a = b) (h : ¬ (isM a = true ∧ isM a = true)) (w : World) : Calls Try.prog 14 #[.int .i64 a, .int .i64 b] w fun e w' => e = .returned (.int .i64 0) ∧ w = w' := by
  subst h3
  clear h1 h2
  cases hm : isM a
  · have HM := hide hm
    clear hm h
    go_enter Try.func14, Try.ntmps14
    go_wp2_with fail
    refine (isMode_calls a _).mono ?_
    rw [HM.out]
    rintro e w' ⟨rfl, rfl⟩
    go_wp2_with fail
    go_ret
    exact ⟨rfl, rfl⟩
  · have hx : isM a = false := by
      cases hx : isM a
      · rfl
      · exact absurd ⟨hm, hx⟩ h
    have HM := hide hm; have HX := hide hx
    clear hm h hx
    go_enter Try.func14, Try.ntmps14
    go_wp2_with fail
    refine (isMode_calls a _).mono ?_
    rw [HM.out]
    rintro e w' ⟨rfl, rfl⟩
    go_wp2_with fail
    refine (isMode_calls a _).mono ?_
    rw [HX.out]
    rintro e w' ⟨rfl, rfl⟩
    go_wp2_with fail
    go_ret
    exact ⟨rfl, rfl⟩
theorem join_no {a b : Int} (h : ¬ (isM a = true ∧ isM b = true)) (w : World) : Calls Try.prog 14 #[.int .i64 a, .int .i64 b] w fun e w' => e = .returned (.int .i64 0) ∧ w = w' := by
  by_cases h1 : a < b
  · exact join_no_lt h1 (by omega) h w
  · by_cases h2 : b < a
    · exact join_no_gt h1 h2 (fun ⟨p, q⟩ => h ⟨q, p⟩) w
    · have h3 : a = b := by omega
      exact join_no_eq h1 h2 h3 (fun ⟨p, q⟩ => h ⟨p, h3 ▸ q⟩) w

theorem modes4 {a b : Int} (ha : isM a = true) (hb : isM b = true) {P : Int → Int → Prop} (h11 : P 1 1) (h12 : P 1 2) (h13 : P 1 3) (h14 : P 1 4) (h21 : P 2 1) (h22 : P 2 2) (h23 : P 2 3) (h24 : P 2 4) (h31 : P 3 1) (h32 : P 3 2) (h33 : P 3 3) (h34 : P 3 4) (h41 : P 4 1) (h42 : P 4 2) (h43 : P 4 3) (h44 : P 4 4) : P a b := by
  rcases isM_cases ha with rfl | rfl | rfl | rfl <;> rcases isM_cases hb with rfl | rfl | rfl | rfl <;> assumption

theorem rtog_calls (a b : Int) (w : World) : Calls Try.prog 13 #[.int .i64 a, .int .i64 b] w fun e w' => e = .returned (.bool (togB a b)) ∧ Chg NoB w w' := by
  by_cases h : isM a = true ∧ isM b = true
  · exact modes4 h.1 h.2 (P := fun a b => Calls Try.prog 13 #[.int .i64 a, .int .i64 b] w fun e w' => e = .returned (.bool (togB a b)) ∧ Chg NoB w w') (rtog_11 w) (rtog_12 w) (rtog_13 w) (rtog_14 w) (rtog_21 w) (rtog_22 w) (rtog_23 w) (rtog_24 w) (rtog_31 w) (rtog_32 w) (rtog_33 w) (rtog_34 w) (rtog_41 w) (rtog_42 w) (rtog_43 w) (rtog_44 w)
  · have e : togB a b = false := by
      unfold togB
      cases ha : isM a <;> cases hb : isM b <;> simp_all
    rw [e]; exact rtog_no h w
theorem rjoin_calls (a b : Int) (w : World) : Calls Try.prog 15 #[.int .i64 a, .int .i64 b] w fun e w' => e = .returned (.int .i64 (joinI a b)) ∧ w = w' := by
  by_cases h : isM a = true ∧ isM b = true
  · exact modes4 h.1 h.2 (P := fun a b => Calls Try.prog 15 #[.int .i64 a, .int .i64 b] w fun e w' => e = .returned (.int .i64 (joinI a b)) ∧ w = w') (rjoin_11 w) (rjoin_12 w) (rjoin_13 w) (rjoin_14 w) (rjoin_21 w) (rjoin_22 w) (rjoin_23 w) (rjoin_24 w) (rjoin_31 w) (rjoin_32 w) (rjoin_33 w) (rjoin_34 w) (rjoin_41 w) (rjoin_42 w) (rjoin_43 w) (rjoin_44 w)
  · rw [joinI_no h]; exact rjoin_no h w
theorem join_calls (a b : Int) (w : World) : Calls Try.prog 14 #[.int .i64 a, .int .i64 b] w fun e w' => e = .returned (.int .i64 (joinI a b)) ∧ w = w' := by
  by_cases h : isM a = true ∧ isM b = true
  · exact modes4 h.1 h.2 (P := fun a b => Calls Try.prog 14 #[.int .i64 a, .int .i64 b] w fun e w' => e = .returned (.int .i64 (joinI a b)) ∧ w = w') (join_11 w) (join_12 w) (join_13 w) (join_14 w) (join_21 w) (join_22 w) (join_23 w) (join_24 w) (join_31 w) (join_32 w) (join_33 w) (join_34 w) (join_41 w) (join_42 w) (join_43 w) (join_44 w)
  · rw [joinI_no h]; exact join_no h w
end Go.Proofs.Ytjnbbmchmkiodaa
