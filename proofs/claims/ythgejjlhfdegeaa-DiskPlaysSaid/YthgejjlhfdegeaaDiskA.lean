/- The device's methods, walked: what computes and counts. -/
import Derived.Test.YthgejjlhfdegeaaDisk
import Derived.Outline
import Derived.Deep.QuietTactic
import Derived.BigQuiet
namespace Go.Proofs.Ythgejjlhfdegeaa
open Go.RowKit Go.MapKept

set_option maxHeartbeats 400000

theorem clone_calls (a : Option Addr) (n c : Nat) (l : List UInt8) (w : World) (h : BS w a n c l) (hn : n ≤ 281474976710656) :
    Calls Try.prog 38 #[.slice a n c] w fun e w' => e = .returned (.slice (some ⟨w.heap.size, 0, none⟩) n n) ∧ w.alloc (.cells (bcells l).toArray 5) = w' := by
  obtain ⟨i0, hi, hz0, hz1, hz2⟩ := info_parts infoU8
  have hl := h.len
  have H := hide hl; clear hl
  go_enter Try.func38, Try.ntmps38
  go_wp2_with (first | (at_make; refine wpList_mk rfl _ _ 28 rfl 5 i0 (.int .u8 0) 1 1 Try.underlying28 hi hz0 hz1 hz2 _ _ 0 n rfl rfl (Nat.zero_le _) (by omega) (by unfold maxLen; omega) ?_) | (at_builtin; refine wpList_app_room rfl (.tmp 5) (.tmp 6) 28 rfl 5 i0 Try.underlying28 hi hz1 w.heap.size 0 n _ rfl (heap_alloc_new _ _) a n c l rfl (h.chg0 (Chg.alloc _ _ _)) (by omega) (by rw [size_madeCells]; omega) ?_))
  go_ret
  refine ⟨?_, ?_⟩
  · simp
  · rw [setRow_alloc, List.drop_of_length_le (by simp [size_madeCells])]; simp

section
variable {w : World} {sb : Nat} {m : DM} {L : DL} {F C : Nat → Prop}

def CountsPost (w : World) (sb : Nat) (m : DM) (L : DL) (F C : Nat → Prop) (e : Ending) (w' : World) : Prop :=
  e = .returned (.bool m.count.2) ∧ DiskL w' sb m.count.1 L F C ∧ Chg (fun k => k = sb) w w'

theorem DiskMem.counted {w : World} {m : DM} {L : DL} {C : Nat → Prop} (h : DiskMem w m L C) : DiskMem w m.count.1 L C := by
  unfold DM.count
  split
  · exact { h with }
  · exact { h with }

theorem counts_calls (h : DiskL w sb m L F C) : Calls Try.prog 39 #[.pointer (some ⟨sb, 0, none⟩)] w (CountsPost w sb m L F C) := by
  have c7 := h.cell 7 (v := .int .i64 m.fuse) rfl
  have c8 := h.cell 8 (v := .int .i64 m.ops) rfl
  have c9 := h.cell 9 (v := .bool m.dead) rfl
  have f7 := h.free 7
  have f8 := h.free 8
  have f9 := h.free 9
  have hf := h.ok.fuse
  have ho := h.ok.ops
  have HB := hide h.blk
  have ok := h.ok.count
  by_cases h0 : m.fuse = 0
  · have e1 : m.count = ({ m with dead := true }, false) := by simp [DM.count, h0]
    have E1 := hide e1; clear e1
    have h0' : (m.fuse == 0) = true := by simp [h0]
    have H0 := hide h0; clear h0
    go_enter Try.func39, Try.ntmps39
    go_wp2
    go_ret
    unfold CountsPost
    rw [E1.out] at ok ⊢
    have hc : Chg (fun k => k = sb) w (w.setCell ⟨sb, 9, none⟩ (.bool true)) := Chg.cell1 w _ _ _
    refine ⟨rfl, h.struct hc ?_ ok (fun hm => { hm with }) rfl rfl rfl rfl, hc⟩
    exact setCell_blk HB.out _
  · have h0' : (m.fuse == 0) = false := by simp [h0]
    by_cases hp : 0 < m.fuse
    · have e1 : m.count = ({ m with fuse := m.fuse - 1, ops := wrap64 (m.ops + 1) }, true) := by simp [DM.count, h0, hp]
      have E1 := hide e1; clear e1
      have H0 := hide h0; clear h0
      go_enter Try.func39, Try.ntmps39
      go_wp2
      go_ret
      unfold CountsPost
      rw [E1.out] at ok ⊢
      have hc : Chg (fun k => k = sb) w ((w.setCell ⟨sb, 7, none⟩ (.int .i64 (m.fuse - 1))).setCell ⟨sb, 8, none⟩ (.int .i64 (wrap64 (m.ops + 1)))) :=
        (Chg.cell1 w _ _ _).trans (Chg.cell1 _ _ _ _)
      refine ⟨rfl, h.struct hc ?_ ok (fun hm => { hm with }) rfl rfl rfl rfl, hc⟩
      exact setCell_blk (setCell_blk HB.out _) _
    · have e1 : m.count = ({ m with fuse := m.fuse, ops := wrap64 (m.ops + 1) }, true) := by simp [DM.count, h0, hp]
      have E1 := hide e1; clear e1
      have H0 := hide h0; clear h0
      go_enter Try.func39, Try.ntmps39
      go_wp2
      go_ret
      unfold CountsPost
      rw [E1.out] at ok ⊢
      have hc : Chg (fun k => k = sb) w (w.setCell ⟨sb, 8, none⟩ (.int .i64 (wrap64 (m.ops + 1)))) := Chg.cell1 w _ _ _
      refine ⟨rfl, h.struct hc ?_ ok (fun hm => { hm with }) rfl rfl rfl rfl, hc⟩
      exact setCell_blk HB.out _

theorem counts_ok (h : DiskL w sb m L F C) (hk : m.count.2 = true) : Calls Try.prog 39 #[.pointer (some ⟨sb, 0, none⟩)] w fun e w' =>
    e = .returned (.bool true) ∧ DiskL w' sb m.count.1 L F C ∧ Chg (fun k => k = sb) w w' :=
  (counts_calls h).mono fun _ _ ⟨he, r⟩ => ⟨by rw [he, hk], r⟩
theorem counts_no (h : DiskL w sb m L F C) (hk : m.count.2 = false) : Calls Try.prog 39 #[.pointer (some ⟨sb, 0, none⟩)] w fun e w' =>
    e = .returned (.bool false) ∧ DiskL w' sb m.count.1 L F C ∧ Chg (fun k => k = sb) w w' :=
  (counts_calls h).mono fun _ _ ⟨he, r⟩ => ⟨by rw [he, hk], r⟩

theorem has_calls (h : DiskL w sb m L F C) (n : Int) : Calls Try.prog 37 #[.pointer (some ⟨sb, 0, none⟩), .int .i64 n] w fun e w' => e = .returned (.bool (m.has n)) ∧ w = w' := by
  have c1 := h.cell 1 (v := .slice (some ⟨L.pb, 0, none⟩) m.base.length m.base.length) rfl
  by_cases h1 : 0 ≤ n
  · have e1 : m.has n = decide (n < (m.base.length : Int)) := by simp [DM.has, h1]
    have E1 := hide e1; clear e1
    go_enter Try.func37, Try.ntmps37
    go_wp2
    go_ret
    exact ⟨by rw [E1.out]; rfl, rfl⟩
  · have e1 : m.has n = false := by simp [DM.has, h1]
    have E1 := hide e1; clear e1
    have h1' : decide (0 ≤ n) = false := by simpa using h1
    go_enter Try.func37, Try.ntmps37
    go_wp2
    go_ret
    exact ⟨by rw [E1.out]; rfl, rfl⟩

theorem pages_calls (h : DiskL w sb m L F C) : Calls Try.prog 29 #[.pointer (some ⟨sb, 0, none⟩)] w fun e w' => e = .returned (.int .i64 m.base.length) ∧ w = w' := by
  have c1 := h.cell 1 (v := .slice (some ⟨L.pb, 0, none⟩) m.base.length m.base.length) rfl
  go_enter Try.func29, Try.ntmps29
  go_wp2
  go_ret
  exact ⟨rfl, rfl⟩
theorem room_calls (h : DiskL w sb m L F C) : Calls Try.prog 30 #[.pointer (some ⟨sb, 0, none⟩)] w fun e w' => e = .returned (.int .i64 m.room) ∧ w = w' := by
  have c1 := h.cell 0 (v := .int .i64 m.room) rfl
  go_enter Try.func30, Try.ntmps30
  go_wp2
  go_ret
  exact ⟨rfl, rfl⟩
theorem certain_calls (h : DiskL w sb m L F C) : Calls Try.prog 24 #[.pointer (some ⟨sb, 0, none⟩)] w fun e w' => e = .returned (.int .i64 m.certain) ∧ w = w' := by
  have c1 := h.cell 5 (v := .int .i64 m.certain) rfl
  go_enter Try.func24, Try.ntmps24
  go_wp2
  go_ret
  exact ⟨rfl, rfl⟩
theorem ops_calls (h : DiskL w sb m L F C) : Calls Try.prog 26 #[.pointer (some ⟨sb, 0, none⟩)] w fun e w' => e = .returned (.int .i64 m.ops) ∧ w = w' := by
  have c1 := h.cell 8 (v := .int .i64 m.ops) rfl
  go_enter Try.func26, Try.ntmps26
  go_wp2
  go_ret
  exact ⟨rfl, rfl⟩
theorem dead_calls (h : DiskL w sb m L F C) : Calls Try.prog 20 #[.pointer (some ⟨sb, 0, none⟩)] w fun e w' => e = .returned (.bool m.dead) ∧ w = w' := by
  have c1 := h.cell 9 (v := .bool m.dead) rfl
  go_enter Try.func20, Try.ntmps20
  go_wp2
  go_ret
  exact ⟨rfl, rfl⟩
end
end Go.Proofs.Ythgejjlhfdegeaa
