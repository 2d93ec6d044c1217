/- The reference's device: what a crash leaves; the pages as they are laid. -/
import Derived.Test.YthgejjlhfdegeaaRefD
import Derived.Test.YthgejjlhfdegeaaHeld
namespace Go.Proofs.Ythgejjlhfdegeaa
open Go.RowKit Go.MapKept
set_option linter.unusedSimpArgs false

/-- The pages of a device in the making: the first k are copies of their own. -/
structure OutRow (A : Nat → Prop) (wr : World) (pg : Nat → List UInt8) (k n : Nat) (ba : Option Addr) (bc : Nat) (pv : List Value) (gb : Nat → Nat) : Prop where
  row : wr.ownsRow 0 28 1 (.slice ba n bc) n pv
  far : ∀ b, ba = some b → A b.block
  page : ∀ i, i < k → ∃ c, pv[i]? = some (.slice (some ⟨gb i, 0, none⟩) 512 c) ∧ A (gb i) ∧ wr.ownsRow 0 5 1 (.slice (some ⟨gb i, 0, none⟩) 512 c) 512 (bcells (pg i)) ∧ ¬ blkOf ba (gb i)
  inj : ∀ i j, i < k → j < k → gb i = gb j → i = j
  le : k ≤ n

section
variable {A : Nat → Prop} {wr w1 w2 : World} {pg : Nat → List UInt8} {k n : Nat} {ba : Option Addr} {bc : Nat} {pv : List Value} {gb : Nat → Nat}
theorem OutRow.chg {F : Nat → Prop} (h : OutRow A wr pg k n ba bc pv gb) (hc : Chg F wr w2) (hF : ∀ j, A j → ¬ F j) : OutRow A w2 pg k n ba bc pv gb :=
  ⟨ownsRow_chg h.row hc (fun b hb => hF _ (h.far b hb)), h.far, fun i hi => by
    obtain ⟨c, h1, h2, h3, h4⟩ := h.page i hi
    exact ⟨c, h1, h2, ownsRow_chg h3 hc (fun b hb => by cases hb; exact hF _ h2), h4⟩, h.inj, h.le⟩
theorem OutRow.chg0 (h : OutRow A wr pg k n ba bc pv gb) (hc : Chg NoB wr w2) : OutRow A w2 pg k n ba bc pv gb := h.chg hc (fun _ _ f => f)
theorem OutRow.lt (h : OutRow A wr pg k n ba bc pv gb) {i : Nat} (hi : i < k) : gb i < wr.heap.size := by
  obtain ⟨c, h1, h2, h3, h4⟩ := h.page i hi
  exact blkOf_lt_row h3 _ ⟨_, rfl, rfl⟩
theorem OutRow.form (h : OutRow A wr pg k n ba bc pv gb) (hn : 0 < n) : ∃ g cur, ba = some ⟨g, 0, none⟩ ∧ wr.heap[g]? = some (.cells cur 28 (0, 0)) ∧ n ≤ bc ∧ cur.size = bc ∧ cur.toList.take n = pv ∧ A g := by
  obtain ⟨g, cur, h1, _, h2, h3, h4, h5⟩ := row_block h.row hn
  exact ⟨g, cur, h1, h2, h3, h4, h5, h.far _ h1⟩
/-- A row with a cell written. -/
theorem row_set {w : World} {e : TypeId} {g n c : Nat} {pv : List Value} (h : w.ownsRow 0 e 1 (.slice (some ⟨g, 0, none⟩) n c) n pv) {i : Nat} (hi : i < n) (v : Value) : (w.setCell ⟨g, i, none⟩ v).ownsRow 0 e 1 (.slice (some ⟨g, 0, none⟩) n c) n (pv.set i v) := by
  have hl := h.1
  rcases h.2 with ⟨_, h0⟩ | ⟨g', cap, cur, hv, hb, hg, h1, h2, h3, h4⟩
  · omega
  · simp only [Value.slice.injEq, Option.some.injEq, Addr.mk.injEq, true_and, and_true] at hv
    obtain ⟨rfl, rfl⟩ := hv
    refine ⟨by simpa using hl, .inr ⟨_, _, cur.setIfInBounds i v, rfl, hb, setCell_blk hg v, h1, h2, by simpa using h3, ?_⟩⟩
    rw [Array.toList_setIfInBounds, ← h4, Nat.mul_one, List.take_set]
/-- One page is laid anew. -/
theorem OutRow.put {g : Nat} (h : OutRow A wr pg k n (some ⟨g, 0, none⟩) bc pv gb) {i k' : Nat} (hi : i < n) (hk : i ≤ k) (hk' : k' = max k (i + 1)) (hc1 : Chg NoB wr w1) {a : Option Addr} {c : Nat} {p : List UInt8} (hp : p.length = 512) (hA : ∀ q, wr.heap.size ≤ q → A q)
    (hr : w1.ownsRow 0 5 1 (.slice a p.length c) p.length (bcells p)) (ha : ∀ b, a = some b → wr.heap.size ≤ b.block) :
    ∃ gb', OutRow A (w1.setCell ⟨g, i, none⟩ (.slice a 512 c)) (fun j => if j = i then p else pg j) k' n (some ⟨g, 0, none⟩) bc (pv.set i (.slice a 512 c)) gb' := by
  rw [hp] at hr
  obtain ⟨q, cur, rfl, _, _⟩ := row_block hr (by omega)
  have hq := ha _ rfl
  simp only at hq
  have hg := blkOf_lt_row h.row g ⟨_, rfl, rfl⟩
  have h1 := h.chg0 hc1
  have hcs := Chg.cell1 w1 g i (.slice (some ⟨q, 0, none⟩) 512 c)
  have hpl : pv.length = n := by have := h.row.1; omega
  refine ⟨fun j => if j = i then q else gb j, row_set h1.row hi _, h.far, fun j hj => ?_, fun a b hA' hB' he => ?_, by have := h.le; omega⟩
  · by_cases hji : j = i
    · subst hji
      simp only [if_true]
      refine ⟨c, by rw [List.getElem?_set_self (by omega)], hA _ hq, ownsRow_chg hr hcs (fun b hb e => by cases hb; have : q = g := e; omega), ?_⟩
      rintro ⟨b, hb, e⟩; cases hb; simp at e; omega
    · have hjk : j < k := by omega
      simp only [if_neg hji]
      obtain ⟨c', p1, p2, p3, p4⟩ := h1.page j hjk
      refine ⟨c', by rw [List.getElem?_set_ne (Ne.symm hji)]; exact p1, p2, ownsRow_chg p3 hcs (fun b hb e => by cases hb; exact p4 ⟨_, rfl, e.symm⟩), p4⟩
  · by_cases ha' : a = i <;> by_cases hb' : b = i
    · omega
    · simp only [ha', if_true, if_neg hb'] at he
      have := h.lt (i := b) (by omega)
      omega
    · simp only [hb', if_true, if_neg ha'] at he
      have := h.lt (i := a) (by omega)
      omega
    · simp only [if_neg ha', if_neg hb'] at he
      exact h.inj a b (by omega) (by omega) he
end
end Go.Proofs.Ythgejjlhfdegeaa
