/- The device made: fresh, New. -/
import Derived.Test.YthgejjlhfdegeaaDiskF
namespace Go.Proofs.Ythgejjlhfdegeaa
open Go.RowKit Go.MapKept

set_option maxHeartbeats 400000

/-- The blocks of a device just made. -/
def onlyNew (g : Nat) (k : Nat) : Prop := k = g + 2 ∨ k = g ∨ k = g + 1

def freshL (g pages : Nat) : DL :=
  { pb := g, ps := List.replicate pages ⟨.slice none 0 0, zeros512⟩, wa := none, wc := 0, ws := [], mb := g + 1, mp := fun _ => none, la := none, lc := 0, ma := none, mc := 0, tp := none, ta := none, tc := 0 }

theorem no_blk (k : Nat) : ¬ blkOf none k := fun ⟨_, h, _⟩ => by cases h

theorem madeCells_one (z : Value) (n : Nat) : madeCells #[z] n = (List.replicate n z).toArray := by
  apply Array.ext_getElem?
  intro j
  simp only [madeCells, Array.getElem?_map, List.getElem?_toArray]
  by_cases hj : j < n
  · simp [hj, Nat.mod_one]
  · simp [hj]

theorem fresh_calls (pages room : Nat) (w : World) (h1 : 1 ≤ pages) (h2 : pages ≤ 65536) (h3 : room ≤ 16777216) :
    Calls Try.prog 36 #[.int .i64 pages, .int .i64 room] w fun e w' => e = .returned (.pointer (some ⟨w.heap.size + 2, 0, none⟩)) ∧ DiskL w' (w.heap.size + 2) (DM.fresh pages room) (freshL w.heap.size pages) (onlyNew w.heap.size) NoB ∧ Chg NoB w w' ∧ w'.heap.size = w.heap.size + 3 := by
  obtain ⟨i0, hi, hz0, hz1, hz2⟩ := info_parts infoPg
  have hmm := @run_makeMap Try.prog
  go_enter Try.func36, Try.ntmps36
  go_wp2_with (at_make; refine wpList_mk rfl _ _ 47 rfl 28 i0 (.slice none 0 0) 1 24 Try.underlying47 hi hz0 hz1 hz2 _ _ pages pages rfl rfl (Nat.le_refl _) (by omega) (by unfold maxLen; omega) ?_)
  go_ret
  have hs : ∀ (w' : World) (o : Obj) (k : Nat), k < w'.heap.size → (w'.alloc o).heap[k]? = w'.heap[k]? := fun w' o k hk => Below.heap_alloc w' o k hk
  refine ⟨rfl, ?_, (((Chg.alloc _ _ _).trans (Chg.alloc _ _ _)).trans (Chg.alloc _ _ _)), by simp⟩
  refine ⟨?_, ?_, DM.Ok.fresh h1 h2 h3, ?_, ?_, ?_, ?_, ?_, ?_, ?_, ?_, ?_, ?_, ?_, ?_⟩
  · rw [heap_alloc_new' _ (by simp) _]
    simp [dcells, DM.fresh, freshL]
  · refine { pages := ?_, psl := ?_, psv := ?_, wait := ?_, wsl := rfl, wsv := ?_, map := ?_, now := ?_, log := ?_, mark := ?_, markC := ?_, tail := ?_, tailC := ?_, torn := rfl }
    · rw [hs _ _ _ (by simp [freshL]; omega), hs _ _ _ (by simp [freshL])]
      rw [show (freshL w.heap.size pages).pb = w.heap.size from rfl, heap_alloc_new]
      have e : (freshL w.heap.size pages).ps.map PR.v = List.replicate pages (Value.slice none 0 0) := by simp [freshL]
      rw [e, ← madeCells_one]
    · simp [DM.fresh, freshL]
    · intro r hr
      simp only [freshL, List.mem_replicate] at hr
      rw [hr.2]; exact .inl ⟨rfl, rfl⟩
    · exact World.ownsRow_nil _ _ _ _
    · intro r hr; cases hr
    · have hM := (MapAt.made (w.alloc (.cells (madeCells #[.slice none 0 0] pages) 28)) (.int .i64) encI)
      rw [World.size_alloc] at hM
      exact hM.chg (Chg.alloc NoB _ _) (fun f => f)
    · intro n; simp [freshL, nowOf, lastOf]
    · exact World.ownsRow_nil _ _ _ _
    · exact BS.nil' _
    · intro b hb; cases hb
    · exact BS.nil' _
    · intro b hb; cases hb
  · intro k
    refine ⟨fun h => ?_, fun h => ?_⟩
    · rcases h with h | h | h
      · exact .inl h
      · exact .inr (.inl h)
      · exact .inr (.inr (.inl h))
    · rcases h with h | h | h | h | h
      · exact .inl h
      · exact .inr (.inl h)
      · exact .inr (.inr h)
      · exact (no_blk _ h).elim
      · exact (no_blk _ h).elim
  · intro k hk; exact hk.elim
  · show w.heap.size + 2 ≠ w.heap.size; omega
  · show w.heap.size + 2 ≠ w.heap.size + 1; omega
  · exact no_blk _
  · exact no_blk _
  · show w.heap.size ≠ w.heap.size + 1; omega
  · exact no_blk _
  · exact no_blk _
  · exact no_blk _
  · exact no_blk _
  · exact fun k hk => (no_blk _ hk).elim

theorem new_ok (pages room : Nat) (w : World) (h1 : 1 ≤ pages) (h2 : pages ≤ 65536) (h3 : room ≤ 16777216) :
    Calls Try.prog 11 #[.int .i64 pages, .int .i64 room] w fun e w' => e = .returned (.tuple #[.pointer (some ⟨w.heap.size + 2, 0, none⟩), .int .i64 0]) ∧ DiskL w' (w.heap.size + 2) (DM.fresh pages room) (freshL w.heap.size pages) (onlyNew w.heap.size) NoB ∧ Chg NoB w w' ∧ w'.heap.size = w.heap.size + 3 := by
  have a1 : decide ((pages : Int) < 1) = false := by simp; omega
  have a2 : decide ((65536 : Int) < (pages : Int)) = false := by simp; omega
  have a3 : decide ((room : Int) < 0) = false := by simp
  have a4 : decide ((16777216 : Int) < (room : Int)) = false := by simp; omega
  go_enter Try.func11, Try.ntmps11
  go_wp2_with (go_at_call 36; refine (fresh_calls pages room _ h1 h2 h3).mono ?_; rintro e w1 ⟨rfl, r1⟩)
  go_ret2
  exact ⟨rfl, r1⟩

theorem new_no (pages room : Int) (w : World) (h : pages < 1 ∨ 65536 < pages ∨ room < 0 ∨ 16777216 < room) :
    Calls Try.prog 11 #[.int .i64 pages, .int .i64 room] w fun e w' => e = .returned (.tuple #[.pointer none, .int .i64 1]) ∧ w = w' := by
  by_cases a1 : pages < 1
  · clear h
    go_enter Try.func11, Try.ntmps11
    go_wp2_with fail
    go_ret2
    exact ⟨rfl, rfl⟩
  · have b1 : decide (pages < 1) = false := by simpa using a1
    by_cases a2 : 65536 < pages
    · clear h
      go_enter Try.func11, Try.ntmps11
      go_wp2_with fail
      go_ret2
      exact ⟨rfl, rfl⟩
    · have b2 : decide (65536 < pages) = false := by simpa using a2
      by_cases a3 : room < 0
      · clear h
        go_enter Try.func11, Try.ntmps11
        go_wp2_with fail
        go_ret2
        exact ⟨rfl, rfl⟩
      · have b3 : decide (room < 0) = false := by simpa using a3
        have a4 : 16777216 < room := by omega
        clear h
        go_enter Try.func11, Try.ntmps11
        go_wp2_with fail
        go_ret2
        exact ⟨rfl, rfl⟩
end Go.Proofs.Ythgejjlhfdegeaa
