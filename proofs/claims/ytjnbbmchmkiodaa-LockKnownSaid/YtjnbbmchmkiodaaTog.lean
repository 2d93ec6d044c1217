/- The modes: plain; Together, Join, the program's and the reference's. -/
import Derived.Test.YtjnbbmchmkiodaaProg
import Derived.Test.YtjnbbmchmkiodaaBase
import Derived.KernelRfl
import Derived.WalkLawsBesides
import Derived.Laws.Rows
import Derived.Laws.Tables
namespace Go.Proofs.Ytjnbbmchmkiodaa
open Go.RowKit

def isM (a : Int) : Bool := decide (1 ≤ a ∧ a ≤ 4)
def togB (a b : Int) : Bool := isM a && isM b && (decide (a = 1 ∧ b ≤ 3) || decide (a = 2 ∧ b ≤ 2) || decide (a = 3 ∧ (b = 1 ∨ b = 3)))
def joinI (a b : Int) : Int := if isM a && isM b then (if a = b ∨ b = 1 then a else if a = 1 then b else 4) else 0

theorem isMode_calls (a : Int) (w : World) : Calls Try.prog 27 #[.int .i64 a] w fun e w' => e = .returned (.bool (isM a)) ∧ w = w' := by
  by_cases h1 : 1 ≤ a
  · by_cases h4 : a ≤ 4
    · have e : isM a = true := by simp [isM, h1, h4]
      rw [e]; clear e
      go_enter Try.func27, Try.ntmps27
      go_wp2_with fail
      go_ret
      exact ⟨by simp, rfl⟩
    · have e : isM a = false := by simp [isM, h4]
      rw [e]; clear e
      go_enter Try.func27, Try.ntmps27
      go_wp2_with fail
      go_ret
      exact ⟨by simp, rfl⟩
  · have e : isM a = false := by simp [isM, h1]
    rw [e]; clear e
    go_enter Try.func27, Try.ntmps27
    go_wp2_with fail
    go_ret
    exact ⟨by simp, rfl⟩

def pairL : Array Value := #[.bool false, .bool false, .bool false, .bool false, .bool false, .bool false, .bool true, .bool true, .bool true, .bool false, .bool false, .bool true, .bool true, .bool false, .bool false, .bool false, .bool true, .bool false, .bool true, .bool false, .bool false, .bool false, .bool false, .bool false, .bool false]
theorem pairL_size : pairL.size = 25 := by kernel_rfl
theorem pairL_one : pairL.all (·.oneCell') = true := by kernel_rfl
theorem infoP : (Try.prog.info? 59).map (·.size) = some 25 := by kernel_rfl
def pairZ : Array Value := Array.replicate 25 (.bool false)
theorem pairZ_size : pairZ.size = 25 := by kernel_rfl

set_option maxRecDepth 100000 in
theorem pairs_calls (w : World) : Calls Try.prog 28 #[] w fun e w' => e = .returned (.agg pairL) ∧ Chg NoB w w' := by
  have HB : Hid ((w.alloc (.cells pairZ 59)).heap[w.heap.size]? = some (.cells pairZ 59 (0, 0))) := heap_alloc_new w _
  go_enter Try.func28, Try.ntmps28
  go_wp2_with (first | (refine wpList_store_row rfl 59 (.tmp 0) (.tmp 4) rfl w.heap.size pairL rfl rfl 59 pairZ HB.out (by rw [pairL_size]; exact infoP) (by rw [pairL_size, pairZ_size]) pairL_one ?_))
  have hc : Chg NoB w ((w.alloc (.cells pairZ 59)).setRow w.heap.size pairL) := (Chg.alloc NoB w _).trans' (Chg.setRow1 _ w.heap.size pairL) (fun i hi => .inr (by have : i = w.heap.size := hi; omega))
  exact ⟨rfl, _, results_cell_row (P := Try.prog) (ty := 59) rfl _ _ w.heap.size _ _ _ _ rfl (setRow_heap _ _ _ _ _ _ HB.out) Try.underlying59 rfl (by rw [pairL_size]; exact infoP), rfl, hc⟩

def pairR1 : Array Value := #[.bool false, .bool true, .bool true, .bool true, .bool false]
theorem idx59_1 (u : World) : (Instr.index 59 (.agg pairL) (.int .i64 1)).run Try.prog u = .ok (.agg pairR1) u := by kernel_rfl
theorem idx58_11 (u : World) : (Instr.index 58 (.agg pairR1) (.int .i64 1)).run Try.prog u = .ok (.bool true) u := by kernel_rfl
theorem idx58_12 (u : World) : (Instr.index 58 (.agg pairR1) (.int .i64 2)).run Try.prog u = .ok (.bool true) u := by kernel_rfl
theorem idx58_13 (u : World) : (Instr.index 58 (.agg pairR1) (.int .i64 3)).run Try.prog u = .ok (.bool true) u := by kernel_rfl
theorem idx58_14 (u : World) : (Instr.index 58 (.agg pairR1) (.int .i64 4)).run Try.prog u = .ok (.bool false) u := by kernel_rfl
def pairR2 : Array Value := #[.bool false, .bool true, .bool true, .bool false, .bool false]
theorem idx59_2 (u : World) : (Instr.index 59 (.agg pairL) (.int .i64 2)).run Try.prog u = .ok (.agg pairR2) u := by kernel_rfl
theorem idx58_21 (u : World) : (Instr.index 58 (.agg pairR2) (.int .i64 1)).run Try.prog u = .ok (.bool true) u := by kernel_rfl
theorem idx58_22 (u : World) : (Instr.index 58 (.agg pairR2) (.int .i64 2)).run Try.prog u = .ok (.bool true) u := by kernel_rfl
theorem idx58_23 (u : World) : (Instr.index 58 (.agg pairR2) (.int .i64 3)).run Try.prog u = .ok (.bool false) u := by kernel_rfl
theorem idx58_24 (u : World) : (Instr.index 58 (.agg pairR2) (.int .i64 4)).run Try.prog u = .ok (.bool false) u := by kernel_rfl
def pairR3 : Array Value := #[.bool false, .bool true, .bool false, .bool true, .bool false]
theorem idx59_3 (u : World) : (Instr.index 59 (.agg pairL) (.int .i64 3)).run Try.prog u = .ok (.agg pairR3) u := by kernel_rfl
theorem idx58_31 (u : World) : (Instr.index 58 (.agg pairR3) (.int .i64 1)).run Try.prog u = .ok (.bool true) u := by kernel_rfl
theorem idx58_32 (u : World) : (Instr.index 58 (.agg pairR3) (.int .i64 2)).run Try.prog u = .ok (.bool false) u := by kernel_rfl
theorem idx58_33 (u : World) : (Instr.index 58 (.agg pairR3) (.int .i64 3)).run Try.prog u = .ok (.bool true) u := by kernel_rfl
theorem idx58_34 (u : World) : (Instr.index 58 (.agg pairR3) (.int .i64 4)).run Try.prog u = .ok (.bool false) u := by kernel_rfl
def pairR4 : Array Value := #[.bool false, .bool false, .bool false, .bool false, .bool false]
theorem idx59_4 (u : World) : (Instr.index 59 (.agg pairL) (.int .i64 4)).run Try.prog u = .ok (.agg pairR4) u := by kernel_rfl
theorem idx58_41 (u : World) : (Instr.index 58 (.agg pairR4) (.int .i64 1)).run Try.prog u = .ok (.bool false) u := by kernel_rfl
theorem idx58_42 (u : World) : (Instr.index 58 (.agg pairR4) (.int .i64 2)).run Try.prog u = .ok (.bool false) u := by kernel_rfl
theorem idx58_43 (u : World) : (Instr.index 58 (.agg pairR4) (.int .i64 3)).run Try.prog u = .ok (.bool false) u := by kernel_rfl
theorem idx58_44 (u : World) : (Instr.index 58 (.agg pairR4) (.int .i64 4)).run Try.prog u = .ok (.bool false) u := by kernel_rfl

theorem isM_cases {a : Int} (h : isM a = true) : a = 1 ∨ a = 2 ∨ a = 3 ∨ a = 4 := by
  have : 1 ≤ a ∧ a ≤ 4 := by simpa [isM] using h
  omega

theorem tog_11 (w : World) : Calls Try.prog 12 #[.int .i64 1, .int .i64 1] w fun e w' => e = .returned (.bool (togB 1 1)) ∧ Chg NoB w w' := by
  have e : togB 1 1 = true := by decide
  rw [e]; clear e
  have h1 := idx59_1
  have h2 := idx58_11
  go_enter Try.func12, Try.ntmps12
  go_wp2_with fail
  refine (isMode_calls 1 _).mono ?_
  rw [show isM 1 = true by decide]
  rintro e w' ⟨rfl, rfl⟩
  go_wp2_with fail
  refine (isMode_calls 1 _).mono ?_
  rw [show isM 1 = true by decide]
  rintro e w' ⟨rfl, rfl⟩
  go_wp2_with fail
  refine (pairs_calls _).mono ?_
  rintro e w1 ⟨rfl, hc⟩
  go_wp2_with fail
  go_ret
  exact ⟨rfl, hc⟩
theorem tog_12 (w : World) : Calls Try.prog 12 #[.int .i64 1, .int .i64 2] w fun e w' => e = .returned (.bool (togB 1 2)) ∧ Chg NoB w w' := by
  have e : togB 1 2 = true := by decide
  rw [e]; clear e
  have h1 := idx59_1
  have h2 := idx58_12
  go_enter Try.func12, Try.ntmps12
  go_wp2_with fail
  refine (isMode_calls 1 _).mono ?_
  rw [show isM 1 = true by decide]
  rintro e w' ⟨rfl, rfl⟩
  go_wp2_with fail
  refine (isMode_calls 2 _).mono ?_
  rw [show isM 2 = true by decide]
  rintro e w' ⟨rfl, rfl⟩
  go_wp2_with fail
  refine (pairs_calls _).mono ?_
  rintro e w1 ⟨rfl, hc⟩
  go_wp2_with fail
  go_ret
  exact ⟨rfl, hc⟩
theorem tog_13 (w : World) : Calls Try.prog 12 #[.int .i64 1, .int .i64 3] w fun e w' => e = .returned (.bool (togB 1 3)) ∧ Chg NoB w w' := by
  have e : togB 1 3 = true := by decide
  rw [e]; clear e
  have h1 := idx59_1
  have h2 := idx58_13
  go_enter Try.func12, Try.ntmps12
  go_wp2_with fail
  refine (isMode_calls 1 _).mono ?_
  rw [show isM 1 = true by decide]
  rintro e w' ⟨rfl, rfl⟩
  go_wp2_with fail
  refine (isMode_calls 3 _).mono ?_
  rw [show isM 3 = true by decide]
  rintro e w' ⟨rfl, rfl⟩
  go_wp2_with fail
  refine (pairs_calls _).mono ?_
  rintro e w1 ⟨rfl, hc⟩
  go_wp2_with fail
  go_ret
  exact ⟨rfl, hc⟩
theorem tog_14 (w : World) : Calls Try.prog 12 #[.int .i64 1, .int .i64 4] w fun e w' => e = .returned (.bool (togB 1 4)) ∧ Chg NoB w w' := by
  have e : togB 1 4 = false := by decide
  rw [e]; clear e
  have h1 := idx59_1
  have h2 := idx58_14
  go_enter Try.func12, Try.ntmps12
  go_wp2_with fail
  refine (isMode_calls 1 _).mono ?_
  rw [show isM 1 = true by decide]
  rintro e w' ⟨rfl, rfl⟩
  go_wp2_with fail
  refine (isMode_calls 4 _).mono ?_
  rw [show isM 4 = true by decide]
  rintro e w' ⟨rfl, rfl⟩
  go_wp2_with fail
  refine (pairs_calls _).mono ?_
  rintro e w1 ⟨rfl, hc⟩
  go_wp2_with fail
  go_ret
  exact ⟨rfl, hc⟩
theorem tog_21 (w : World) : Calls Try.prog 12 #[.int .i64 2, .int .i64 1] w fun e w' => e = .returned (.bool (togB 2 1)) ∧ Chg NoB w w' := by
  have e : togB 2 1 = true := by decide
  rw [e]; clear e
  have h1 := idx59_2
  have h2 := idx58_21
  go_enter Try.func12, Try.ntmps12
  go_wp2_with fail
  refine (isMode_calls 2 _).mono ?_
  rw [show isM 2 = true by decide]
  rintro e w' ⟨rfl, rfl⟩
  go_wp2_with fail
  refine (isMode_calls 1 _).mono ?_
  rw [show isM 1 = true by decide]
  rintro e w' ⟨rfl, rfl⟩
  go_wp2_with fail
  refine (pairs_calls _).mono ?_
  rintro e w1 ⟨rfl, hc⟩
  go_wp2_with fail
  go_ret
  exact ⟨rfl, hc⟩
theorem tog_22 (w : World) : Calls Try.prog 12 #[.int .i64 2, .int .i64 2] w fun e w' => e = .returned (.bool (togB 2 2)) ∧ Chg NoB w w' := by
  have e : togB 2 2 = true := by decide
  rw [e]; clear e
  have h1 := idx59_2
  have h2 := idx58_22
  go_enter Try.func12, Try.ntmps12
  go_wp2_with fail
  refine (isMode_calls 2 _).mono ?_
  rw [show isM 2 = true by decide]
  rintro e w' ⟨rfl, rfl⟩
  go_wp2_with fail
  refine (isMode_calls 2 _).mono ?_
  rw [show isM 2 = true by decide]
  rintro e w' ⟨rfl, rfl⟩
  go_wp2_with fail
  refine (pairs_calls _).mono ?_
  rintro e w1 ⟨rfl, hc⟩
  go_wp2_with fail
  go_ret
  exact ⟨rfl, hc⟩
theorem tog_23 (w : World) : Calls Try.prog 12 #[.int .i64 2, .int .i64 3] w fun e w' => e = .returned (.bool (togB 2 3)) ∧ Chg NoB w w' := by
  have e : togB 2 3 = false := by decide
  rw [e]; clear e
  have h1 := idx59_2
  have h2 := idx58_23
  go_enter Try.func12, Try.ntmps12
  go_wp2_with fail
  refine (isMode_calls 2 _).mono ?_
  rw [show isM 2 = true by decide]
  rintro e w' ⟨rfl, rfl⟩
  go_wp2_with fail
  refine (isMode_calls 3 _).mono ?_
  rw [show isM 3 = true by decide]
  rintro e w' ⟨rfl, rfl⟩
  go_wp2_with fail
  refine (pairs_calls _).mono ?_
  rintro e w1 ⟨rfl, hc⟩
  go_wp2_with fail
  go_ret
  exact ⟨rfl, hc⟩
theorem tog_24 (w : World) : Calls Try.prog 12 #[.int .i64 2, .int .i64 4] w fun e w' => e = .returned (.bool (togB 2 4)) ∧ Chg NoB w w' := by
  have e : togB 2 4 = false := by decide
  rw [e]; clear e
  have h1 := idx59_2
  have h2 := idx58_24
  go_enter Try.func12, Try.ntmps12
  go_wp2_with fail
  refine (isMode_calls 2 _).mono ?_
  rw [show isM 2 = true by decide]
  rintro e w' ⟨rfl, rfl⟩
  go_wp2_with fail
  refine (isMode_calls 4 _).mono ?_
  rw [show isM 4 = true by decide]
  rintro e w' ⟨rfl, rfl⟩
  go_wp2_with fail
  refine (pairs_calls _).mono ?_
  rintro e w1 ⟨rfl, hc⟩
  go_wp2_with fail
  go_ret
  exact ⟨rfl, hc⟩
theorem tog_31 (w : World) : Calls Try.prog 12 #[.int .i64 3, .int .i64 1] w fun e w' => e = .returned (.bool (togB 3 1)) ∧ Chg NoB w w' := by
  have e : togB 3 1 = true := by decide
  rw [e]; clear e
  have h1 := idx59_3
  have h2 := idx58_31
  go_enter Try.func12, Try.ntmps12
  go_wp2_with fail
  refine (isMode_calls 3 _).mono ?_
  rw [show isM 3 = true by decide]
  rintro e w' ⟨rfl, rfl⟩
  go_wp2_with fail
  refine (isMode_calls 1 _).mono ?_
  rw [show isM 1 = true by decide]
  rintro e w' ⟨rfl, rfl⟩
  go_wp2_with fail
  refine (pairs_calls _).mono ?_
  rintro e w1 ⟨rfl, hc⟩
  go_wp2_with fail
  go_ret
  exact ⟨rfl, hc⟩
theorem tog_32 (w : World) : Calls Try.prog 12 #[.int .i64 3, .int .i64 2] w fun e w' => e = .returned (.bool (togB 3 2)) ∧ Chg NoB w w' := by
  have e : togB 3 2 = false := by decide
  rw [e]; clear e
  have h1 := idx59_3
  have h2 := idx58_32
  go_enter Try.func12, Try.ntmps12
  go_wp2_with fail
  refine (isMode_calls 3 _).mono ?_
  rw [show isM 3 = true by decide]
  rintro e w' ⟨rfl, rfl⟩
  go_wp2_with fail
  refine (isMode_calls 2 _).mono ?_
  rw [show isM 2 = true by decide]
  rintro e w' ⟨rfl, rfl⟩
  go_wp2_with fail
  refine (pairs_calls _).mono ?_
  rintro e w1 ⟨rfl, hc⟩
  go_wp2_with fail
  go_ret
  exact ⟨rfl, hc⟩
theorem tog_33 (w : World) : Calls Try.prog 12 #[.int .i64 3, .int .i64 3] w fun e w' => e = .returned (.bool (togB 3 3)) ∧ Chg NoB w w' := by
  have e : togB 3 3 = true := by decide
  rw [e]; clear e
  have h1 := idx59_3
  have h2 := idx58_33
  go_enter Try.func12, Try.ntmps12
  go_wp2_with fail
  refine (isMode_calls 3 _).mono ?_
  rw [show isM 3 = true by decide]
  rintro e w' ⟨rfl, rfl⟩
  go_wp2_with fail
  refine (isMode_calls 3 _).mono ?_
  rw [show isM 3 = true by decide]
  rintro e w' ⟨rfl, rfl⟩
  go_wp2_with fail
  refine (pairs_calls _).mono ?_
  rintro e w1 ⟨rfl, hc⟩
  go_wp2_with fail
  go_ret
  exact ⟨rfl, hc⟩
theorem tog_34 (w : World) : Calls Try.prog 12 #[.int .i64 3, .int .i64 4] w fun e w' => e = .returned (.bool (togB 3 4)) ∧ Chg NoB w w' := by
  have e : togB 3 4 = false := by decide
  rw [e]; clear e
  have h1 := idx59_3
  have h2 := idx58_34
  go_enter Try.func12, Try.ntmps12
  go_wp2_with fail
  refine (isMode_calls 3 _).mono ?_
  rw [show isM 3 = true by decide]
  rintro e w' ⟨rfl, rfl⟩
  go_wp2_with fail
  refine (isMode_calls 4 _).mono ?_
  rw [show isM 4 = true by decide]
  rintro e w' ⟨rfl, rfl⟩
  go_wp2_with fail
  refine (pairs_calls _).mono ?_
  rintro e w1 ⟨rfl, hc⟩
  go_wp2_with fail
  go_ret
  exact ⟨rfl, hc⟩
theorem tog_41 (w : World) : Calls Try.prog 12 #[.int .i64 4, .int .i64 1] w fun e w' => e = .returned (.bool (togB 4 1)) ∧ Chg NoB w w' := by
  have e : togB 4 1 = false := by decide
  rw [e]; clear e
  have h1 := idx59_4
  have h2 := idx58_41
  go_enter Try.func12, Try.ntmps12
  go_wp2_with fail
  refine (isMode_calls 4 _).mono ?_
  rw [show isM 4 = true by decide]
  rintro e w' ⟨rfl, rfl⟩
  go_wp2_with fail
  refine (isMode_calls 1 _).mono ?_
  rw [show isM 1 = true by decide]
  rintro e w' ⟨rfl, rfl⟩
  go_wp2_with fail
  refine (pairs_calls _).mono ?_
  rintro e w1 ⟨rfl, hc⟩
  go_wp2_with fail
  go_ret
  exact ⟨rfl, hc⟩
theorem tog_42 (w : World) : Calls Try.prog 12 #[.int .i64 4, .int .i64 2] w fun e w' => e = .returned (.bool (togB 4 2)) ∧ Chg NoB w w' := by
  have e : togB 4 2 = false := by decide
  rw [e]; clear e
  have h1 := idx59_4
  have h2 := idx58_42
  go_enter Try.func12, Try.ntmps12
  go_wp2_with fail
  refine (isMode_calls 4 _).mono ?_
  rw [show isM 4 = true by decide]
  rintro e w' ⟨rfl, rfl⟩
  go_wp2_with fail
  refine (isMode_calls 2 _).mono ?_
  rw [show isM 2 = true by decide]
  rintro e w' ⟨rfl, rfl⟩
  go_wp2_with fail
  refine (pairs_calls _).mono ?_
  rintro e w1 ⟨rfl, hc⟩
  go_wp2_with fail
  go_ret
  exact ⟨rfl, hc⟩
theorem tog_43 (w : World) : Calls Try.prog 12 #[.int .i64 4, .int .i64 3] w fun e w' => e = .returned (.bool (togB 4 3)) ∧ Chg NoB w w' := by
  have e : togB 4 3 = false := by decide
  rw [e]; clear e
  have h1 := idx59_4
  have h2 := idx58_43
  go_enter Try.func12, Try.ntmps12
  go_wp2_with fail
  refine (isMode_calls 4 _).mono ?_
  rw [show isM 4 = true by decide]
  rintro e w' ⟨rfl, rfl⟩
  go_wp2_with fail
  refine (isMode_calls 3 _).mono ?_
  rw [show isM 3 = true by decide]
  rintro e w' ⟨rfl, rfl⟩
  go_wp2_with fail
  refine (pairs_calls _).mono ?_
  rintro e w1 ⟨rfl, hc⟩
  go_wp2_with fail
  go_ret
  exact ⟨rfl, hc⟩
theorem tog_44 (w : World) : Calls Try.prog 12 #[.int .i64 4, .int .i64 4] w fun e w' => e = .returned (.bool (togB 4 4)) ∧ Chg NoB w w' := by
  have e : togB 4 4 = false := by decide
  rw [e]; clear e
  have h1 := idx59_4
  have h2 := idx58_44
  go_enter Try.func12, Try.ntmps12
  go_wp2_with fail
  refine (isMode_calls 4 _).mono ?_
  rw [show isM 4 = true by decide]
  rintro e w' ⟨rfl, rfl⟩
  go_wp2_with fail
  refine (isMode_calls 4 _).mono ?_
  rw [show isM 4 = true by decide]
  rintro e w' ⟨rfl, rfl⟩
  go_wp2_with fail
  refine (pairs_calls _).mono ?_
  rintro e w1 ⟨rfl, hc⟩
  go_wp2_with fail
  go_ret
  exact ⟨rfl, hc⟩

set_option maxHeartbeats 1000000 in
theorem together_calls (a b : Int) (w : World) : Calls Try.prog 12 #[.int .i64 a, .int .i64 b] w fun e w' => e = .returned (.bool (togB a b)) ∧ Chg NoB w w' := by
  cases ha : isM a
  · have e : togB a b = false := by simp [togB, ha]
    rw [e]
    have HA := hide ha
    clear e ha
    go_enter Try.func12, Try.ntmps12
    go_wp2_with fail
    refine (isMode_calls a _).mono ?_
    rw [HA.out]
    rintro e w' ⟨rfl, rfl⟩
    go_wp2_with fail
    go_ret
    exact ⟨rfl, Chg.refl _ _⟩
  cases hb : isM b
  · have e : togB a b = false := by simp [togB, hb]
    rw [e]
    have HA := hide ha; have HB := hide hb
    clear e ha hb
    go_enter Try.func12, Try.ntmps12
    go_wp2_with fail
    refine (isMode_calls a _).mono ?_
    rw [HA.out]
    rintro e w' ⟨rfl, rfl⟩
    go_wp2_with fail
    refine (isMode_calls b _).mono ?_
    rw [HB.out]
    rintro e w' ⟨rfl, rfl⟩
    go_wp2_with fail
    go_ret
    exact ⟨rfl, Chg.refl _ _⟩
  rcases isM_cases ha with rfl | rfl | rfl | rfl <;> rcases isM_cases hb with rfl | rfl | rfl | rfl
  · exact tog_11 w
  · exact tog_12 w
  · exact tog_13 w
  · exact tog_14 w
  · exact tog_21 w
  · exact tog_22 w
  · exact tog_23 w
  · exact tog_24 w
  · exact tog_31 w
  · exact tog_32 w
  · exact tog_33 w
  · exact tog_34 w
  · exact tog_41 w
  · exact tog_42 w
  · exact tog_43 w
  · exact tog_44 w
end Go.Proofs.Ytjnbbmchmkiodaa
