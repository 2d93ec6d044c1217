/- The reference's device: a fresh one; settled. -/
import Derived.Test.YthgejjlhfdegeaaRefB
import Derived.StillTailTactics
import Derived.Deep.RegionHeld3
import Derived.Test.YthgejjlhfdegeaaKept
namespace Go.Proofs.Ythgejjlhfdegeaa
open Go.RowKit Go.MapKept

def RL.fresh (ba : Option Addr) (bc : Nat) (pv : List Value) : RL := ⟨ba, bc, pv, none, 0, [], none, 0, none, 0, 0, none, 0, 0, none, 0⟩
def newCells (ba : Option Addr) (k bc room : Nat) : Array Value :=
  #[.slice ba k bc, .slice none 0 0, .int .i64 room, .slice none 0 0, .int .i64 0, .slice none 0 0, .int .i64 (-1), .int .i64 0, .bool false, .int .i64 0, .slice none 0 0, .slice none 0 0, .bool false]

theorem newCells_one (ba : Option Addr) (k bc room : Nat) : (newCells ba k bc room).all (·.oneCell') = true := by simp [newCells, Value.oneCell']
theorem SV.lt {w : World} {G : Nat → Prop} {v : Value} {l : List UInt8} (h : SV w G v l) (hl : 0 < l.length) : SV w (fun j => G j ∧ j < w.heap.size) v l := by
  obtain ⟨a, c, h1, h2, h3⟩ := h
  exact ⟨a, c, h1, h2, fun b hb => ⟨h3 b hb, h2.lt hl b hb⟩⟩
/-- The pages as they are made. -/
structure NewRow (pg : Nat → List UInt8) (w0 wr : World) (k : Nat) (ba : Option Addr) (bc : Nat) (pv : List Value) : Prop where
  row : wr.ownsRow 0 28 1 (.slice ba k bc) k pv
  far : ∀ b, ba = some b → w0.heap.size + 2 ≤ b.block
  page : ∀ i, i < k → ∃ v, pv[i]? = some v ∧ SV wr (fun j => w0.heap.size + 2 ≤ j ∧ ¬ blkOf ba j) v (pg i)
theorem NewRow.chg {pg : Nat → List UInt8} {w0 wr w2 : World} {k : Nat} {ba : Option Addr} {bc : Nat} {pv : List Value} {F : Nat → Prop} (h : NewRow pg w0 wr k ba bc pv) (hc : Chg F wr w2) (hF : ∀ j, F j → j < w0.heap.size + 2) : NewRow pg w0 w2 k ba bc pv :=
  ⟨ownsRow_chg h.row hc (fun b hb e => by have := h.far b hb; have := hF _ e; omega), h.far, fun i hi => by
    obtain ⟨v, hv, hs⟩ := h.page i hi
    exact ⟨v, hv, hs.chg hc (fun j hj e => by have := hj.1; have := hF _ e; omega)⟩⟩
/-- One more. -/
theorem NewRow.snoc {pg : Nat → List UInt8} {w0 wr w1 w2 : World} {k : Nat} {ba a3 : Option Addr} {bc c3 : Nat} {pv : List Value} {v : Value} (h : NewRow pg w0 wr k ba bc pv) (hc1 : Chg NoB wr w1) (hsz : w0.heap.size + 2 ≤ wr.heap.size) (hl : ∀ i, i ≤ k → 0 < (pg i).length)
    (hv : SV w1 (fun j => wr.heap.size ≤ j) v (pg k)) (hr : w2.ownsRow 0 28 1 (.slice a3 (k + 1) c3) (k + 1) (pv ++ [v])) (hc : Chg (fun j => ∃ b, ba = some b ∧ b.block = j) w1 w2) (hat : ∀ j, blkOf a3 j → blkOf ba j ∨ w1.heap.size ≤ j) : NewRow pg w0 w2 (k + 1) a3 c3 (pv ++ [v]) := by
  have hs1 := hc1.size
  refine ⟨hr, fun b hb => (hat b.block ⟨b, hb, rfl⟩).elim (fun ⟨b', hb', e⟩ => by rw [← e]; exact h.far b' hb') (fun h => by omega), fun i hi => ?_⟩
  have hpl : pv.length = k := by have := h.row.1; omega
  by_cases hik : i < k
  · obtain ⟨u, hu, hs⟩ := h.page i hik
    refine ⟨u, by rw [List.getElem?_append_left (by omega)]; exact hu, ?_⟩
    have h2 := ((hs.lt (hl i (by omega))).chg hc1 (fun _ _ f => f)).chg hc (fun j hj e => hj.1.2 e)
    exact h2.mono fun j hj => ⟨hj.1.1, fun e => (hat j e).elim hj.1.2 (fun h => by omega)⟩
  · obtain rfl : i = k := by omega
    refine ⟨v, by rw [List.getElem?_append_right (by omega), hpl]; simp, ?_⟩
    have hb := blkOf_lt_row h.row
    exact ((hv.lt (hl i (by omega))).chg hc (fun j hj e => by have := hb j e; omega)).mono fun j hj => ⟨by omega, fun e => (hat j e).elim (fun e => by have := hb j e; omega) (fun h => by omega)⟩
/-- A fresh one. -/
def NewR (w : World) (pages room : Nat) (e : Ending) (w' : World) : Prop :=
  ∃ ba bc pv, e = .returned (.agg (newCells ba pages bc room)) ∧ NewRow (fun _ => zeros512) w w' pages ba bc pv ∧ Chg NoB w w'

theorem infoRf : (Try.prog.info? 52).map (·.size) = some 13 := by kernel_rfl
section
variable {ops : Array Oper} {rest : List Oper} {o : Oper} {a : Act} {w : World} {Q : Exit → Act → World → Prop}
theorem wpList_ldR (hgd : o.guard = none) (x : Operand) (ho : o.op = .load 52 x) (g : Nat) (hx : a.eval x = .pointer (some ⟨g, 0, none⟩)) (cs : Array Value) (hg : w.heap[g]? = some (.cells cs 52 (0, 0))) (hs : cs.size = 13)
    (h : wpList Try.prog ops Q rest (a.put o.dst (.agg cs)) w) : wpList Try.prog ops Q (o :: rest) a w :=
  wpList_load_row hgd _ x ho g hx _ cs _ _ hg Try.underlying52 rfl (by rw [hs]; exact infoRf) h
theorem wpList_stR (hgd : o.guard = none) (x y : Operand) (ho : o.op = .store 52 x y) (g : Nat) (hx : a.eval x = .pointer (some ⟨g, 0, none⟩)) (old cs : Array Value) (hy : a.eval y = .agg cs) (hg : w.heap[g]? = some (.cells old 52 (0, 0))) (ho2 : old.size = 13) (hs : cs.size = 13) (h1 : cs.all (·.oneCell') = true)
    (h : wpList Try.prog ops Q rest (a.put o.dst undef) (w.setRow g cs)) : wpList Try.prog ops Q (o :: rest) a w :=
  wpList_store_row hgd _ x y ho g cs hx hy _ old hg (by rw [hs]; exact infoRf) (by rw [ho2, hs]) h1 h
end

set_option maxHeartbeats 2000000 in
set_option maxRecDepth 100000 in
theorem newR_calls (pages room : Nat) (w : World) (hp : pages ≤ 65536) : Calls Try.prog 31 #[.int .i64 pages, .int .i64 room] w (NewR w pages room) := by
  obtain ⟨iu, hu, hu0, hu1, hu2⟩ := info_parts infoU8
  obtain ⟨ip, hi, hi0, hi1, hi2⟩ := info_parts infoPg
  have hmk : ∀ u : World, (Instr.makeSlice 28 (.int .i64 512) (.int .i64 512)).run Try.prog u = .ok (.slice (some ⟨u.heap.size, 0, none⟩) 512 512) (u.alloc (.cells (bcells zeros512).toArray 5)) := fun u => by
    have h := run_make (P := Try.prog) u 28 5 iu (.int .u8 0) Try.underlying28 hu hu0 .i64 .i64 512 512 (by omega) (Int.le_refl _) (by rw [hu2]; omega) (by omega)
    rw [made_zeros]
    simpa [hu1, Value.cells] using h
  go_enter Try.func31, Try.ntmps31
  go_wp2_with fail
  go_loopw [6] (fun v wr => ∃ (k : Nat) (ba : Option Addr) (bc : Nat) (pv : List Value), k ≤ pages ∧ v = .int .i64 k ∧ wr.heap[w.heap.size + 1]? = some (.cells (newCells ba k bc room) 52 (0, 0)) ∧ (∃ cs, wr.heap[w.heap.size]? = some (.cells cs 52 (0, 0)) ∧ cs.size = 13) ∧ NewRow (fun _ => zeros512) w wr k ba bc pv ∧ Chg NoB w wr) (fun v _ => pages - (intOf v).toNat)
  case atStart => exact ⟨0, none, 0, [], by omega, rfl, heap_alloc_new' _ (by simp) _, ⟨_, alloc_blk (heap_alloc_new w _) _, rfl⟩, ⟨World.ownsRow_nil _ 0 _ 1, (fun b h => by cases h), (fun i h => absurd h (Nat.not_lt_zero _))⟩, (Chg.alloc _ _ _).trans (Chg.alloc _ _ _)⟩
  case round =>
    obtain ⟨k, ba, bc, pv, hk, rfl, hB, hR, hrow, hch⟩ := hrel
    by_cases hlt : k < pages
    · have hlt' : (k : Int) < (pages : Int) := by omega
      have c0 : wr.cell? ⟨w.heap.size + 1, 0, none⟩ = some (.slice ba k bc) := by rw [cell_of_row wr _ _ _ _ _ hB]; rfl
      have f0 : wr.frozen? ⟨w.heap.size + 1, 0, none⟩ = false := unfrozen hB 0
      have hs1 : w.heap.size + 1 < wr.heap.size := heap_lt hB
      have hKEEP := hide (fun w' (hc : Chg (fun j => w.heap.size + 2 ≤ j) wr w') => And.intro ((hc.cell (p := ⟨w.heap.size + 1, 0, none⟩) hs1 (by simp)).trans c0) ((hc.frozen (p := ⟨w.heap.size + 1, 0, none⟩) hs1 (by simp)).trans f0))
      have hown : ∀ w', Chg NoB wr w' → w'.ownsRow 0 28 1 (.slice ba k bc) k pv := fun w' hc => ownsRow_chg hrow.row hc (fun _ _ f => f)
      have hfar : ∀ j, (∃ b, ba = some b ∧ b.block = j) → w.heap.size + 2 ≤ j := by rintro j ⟨b, hb, rfl⟩; exact hrow.far b hb
      have HROW := hide hrow; have HOWN := hide hown; have HFAR := hide hfar; clear hrow hown hfar
      have HB := hide hB; have HR := hide hR; clear hB hR
      have HN : Hid (∀ ad, some (⟨wr.heap.size + 1, 0, none⟩ : Addr) = some ad → ∀ j u, [Value.slice (some ⟨wr.heap.size, 0, none⟩) 512 512][j]? = some u → (((wr.alloc (.cells (bcells zeros512).toArray 5)).alloc (.cells #[Value.slice (some ⟨wr.heap.size, 0, none⟩) 512 512] 28)).drew).cell? (ad.add j) = some u) :=
        new_cells (w := wr.alloc (.cells (bcells zeros512).toArray 5)) (by simp) [Value.slice (some ⟨wr.heap.size, 0, none⟩) 512 512] 28
      have q1 := (hKEEP.out _ (Chg.alloc _ wr (.cells (bcells zeros512).toArray 5))).1
      have q2 := (hKEEP.out _ ((Chg.alloc _ wr (.cells (bcells zeros512).toArray 5)).trans (Chg.alloc _ _ (.cells #[Value.slice (some ⟨wr.heap.size, 0, none⟩) 512 512] 28)))).1
      go_wp2_with fail
      go_region_law (first | (refine step_app_own rfl (.tmp 15) (.tmp 17) 47 rfl 28 ip (.slice none 0 0) 1 24 Try.underlying47 hi hi0 hi1 hi2 rfl (by decide) ba k bc pv rfl (HOWN.out _ (((Chg.alloc _ _ _).trans (Chg.alloc _ _ _)).trans (Chg.drew _ _))) (some ⟨wr.heap.size + 1, 0, none⟩) 1 1 [.slice (some ⟨wr.heap.size, 0, none⟩) 512 512] rfl (fun e => by cases e) rfl HN.out (by intro u hu; simp at hu; subst hu; rfl) (by unfold maxLen; omega) (by omega) ?_; intro a3 c3 w3 hr3 hc3 hat3; have hcz3 : Chg (fun j => w.heap.size + 2 ≤ j) wr w3 := ((((Chg.alloc _ _ _).trans (Chg.alloc _ _ _)).trans (Chg.drew _ _)).trans (hc3.mono HFAR.out)); obtain ⟨g0, g1⟩ := hKEEP.out _ hcz3))
      all_goals
        have hcs := Chg.cell1 w3 (w.heap.size + 1) 0 (.slice a3 (k + 1) c3)
        have hb3 := setCell_blk (i := 0) (hcz3.blk HB.out (by simp)) (.slice a3 (k + 1) c3)
        obtain ⟨cs, hr1, hr2⟩ := HR.out
        have hr3' := hcs.blk (hcz3.blk hr1 (by simp)) (by simp)
        have hat : ∀ b, a3 = some b → w.heap.size + 2 ≤ b.block := fun b hb => (hat3 b.block ⟨b, hb, rfl⟩).elim (fun h => HFAR.out _ h) (fun h => by simp at h; omega)
        have hro : ∀ b, a3 = some b → ¬ b.block = w.heap.size + 1 := fun b hb e => by have := hat b hb; omega
        have hown4 := ownsRow_chg hr3 hcs hro
        have hcw : Chg NoB w (w3.setCell ⟨w.heap.size + 1, 0, none⟩ (.slice a3 (k + 1) c3)) := (hch.trans' hcz3 (fun i hi => .inr (by have : w.heap.size + 2 ≤ i := hi; omega))).trans' hcs (fun i hi => .inr (by have : i = w.heap.size + 1 := hi; omega))
        have hsz1 : w.heap.size + 2 ≤ wr.heap.size := hs1
        have hz1 : SV (((wr.alloc (.cells (bcells zeros512).toArray 5)).alloc (.cells #[Value.slice (some ⟨wr.heap.size, 0, none⟩) 512 512] 28)).drew) (fun j => wr.heap.size ≤ j) (.slice (some ⟨wr.heap.size, 0, none⟩) 512 512) zeros512 :=
          ⟨some ⟨wr.heap.size, 0, none⟩, 512, rfl, ((BS.newblock wr zeros512 zeros512_length.symm).chg0 (Chg.alloc NoB _ (.cells #[Value.slice (some ⟨wr.heap.size, 0, none⟩) 512 512] 28))).chg0 (Chg.drew NoB _), fun b hb => by cases hb; exact Nat.le_refl _⟩
        have hrow4 := (HROW.out.snoc (((Chg.alloc NoB _ _).trans (Chg.alloc NoB _ _)).trans (Chg.drew NoB _)) hsz1 (fun i _ => by rw [zeros512_length]; omega) hz1 hr3 hc3 (fun j hj => (hat3 j hj).imp id (fun h => by simpa using h))).chg hcs (fun j hj => by have : j = w.heap.size + 1 := hj; omega)
        go_wp2_with fail
        go_roundw
        case rel =>
          exact ⟨k + 1, a3, c3, pv ++ [.slice (some ⟨wr.heap.size, 0, none⟩) 512 512], by omega, by go_num, hb3, ⟨cs, hr3', hr2⟩, hrow4, hcw⟩
        case measure => simp [intOf]; omega
    · obtain rfl : k = pages := by omega
      obtain ⟨cs, hr1, hr2⟩ := hR
      have HB := hide hB; have HR1 := hide hr1; have HR2 := hide hr2; clear hB hr1 hr2
      go_wp2_with (first | (refine wpList_ldR rfl (.tmp 5) rfl (w.heap.size + 1) rfl _ HB.out rfl ?_) | (refine wpList_stR rfl (.tmp 4) (.tmp 20) rfl w.heap.size rfl cs _ rfl HR1.out HR2.out rfl (newCells_one _ _ _ _) ?_))
      have hc1 := Chg.setRow1 wr w.heap.size (newCells ba k bc room)
      have hl1 := setRow_heap _ _ _ (newCells ba k bc room) _ _ HR1.out
      exact ⟨rfl, _, results_cell_row (P := Try.prog) (ty := 52) rfl _ _ w.heap.size _ _ _ _ rfl hl1 Try.underlying52 rfl infoRf, ba, bc, pv, rfl, hrow.chg hc1 (fun j hj => by have : j = w.heap.size := hj; omega), hch.trans' hc1 (fun i hi => .inr (by omega))⟩
end Go.Proofs.Ythgejjlhfdegeaa
