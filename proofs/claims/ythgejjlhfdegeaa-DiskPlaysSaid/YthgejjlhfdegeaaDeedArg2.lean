/- A row of deeds that came in, with its bounds. -/
import Derived.Test.YthgejjlhfdegeaaArg
import Derived.Test.YthgejjlhfdegeaaAsk
import Derived.Deep.Slices
import Derived.Deep.Strs
namespace Go.Proofs.Ythgejjlhfdegeaa
open Go.RowKit Go.ChangeShapes Go.WideShapes Go.ChangeAt Go.Deep Go.Deep

theorem weightsAll_mem {P : Program} {H : Type} {e : TypeId} {d : DataW H} {n : Nat} (hn : n ∈ d.weights P e) : ∀ l : List (DataW H), d ∈ l → n ∈ DataW.weightsAll P e l
  | x :: r, h => by
    rw [DataW.weightsAll, List.mem_append]
    rcases List.mem_cons.1 h with rfl | h
    · exact .inl hn
    · exact .inr (weightsAll_mem hn r h)

theorem dds_of_arg2 {H : Type} {enc : TypeId × Value → H} {W : World} {a : Option Addr} {len cap : Nat} {d : DataW H} {p : List MemPlace}
    (h : DataW.Trod enc Try.prog W 0 (fun _ => true) true 40 (.slice a len cap) d p) (hwt : ∀ n ∈ d.weights Try.prog 40, n ≤ reachBytes) :
    ∃ l, Dds W a len l ∧ ((d = .nil ∧ cap = 0) ∨ ∃ es sp, d = .slice es sp ∧ es.length + sp.length = cap) ∧ len ≤ cap ∧ ∀ x ∈ l, x.k ≤ 140737488351232 ∧ x.n ≤ 9223372036854775807 := by
  obtain ⟨fuel, hf⟩ := h
  rcases open_slice Try.underlying40 hf with ⟨hcs, hx⟩ | ⟨x, l, c, m, n, D, Pl, hcs, _, hl, hm, hmm, hx, hall⟩
  · simp [Value.cells] at hcs
    obtain ⟨rfl, rfl, rfl⟩ := hcs
    simp only [Prod.mk.injEq] at hx
    exact ⟨[], ⟨rfl, fun i d h => by simp at h⟩, .inl ⟨hx.1, rfl⟩, Nat.le_refl _, fun x h => by cases h⟩
  · simp [Value.cells] at hcs
    obtain ⟨rfl, rfl, rfl⟩ := hcs
    simp only [if_true] at hmm
    subst hmm
    simp only [Prod.mk.injEq] at hx
    obtain ⟨bk, o, sp⟩ := x
    have e3 : Try.prog.cellsOf 42 = 3 := by kernel_rfl
    have ei : Try.prog.cellsOf 3 = 1 := by kernel_rfl
    have es : Try.prog.cellsOf 28 = 1 := by kernel_rfl
    rw [e3] at hall
    have hsp : 0 < len → sp = none := fun h0 => by
      obtain ⟨cs', hc, ht⟩ := hall 0 (by omega)
      obtain ⟨_, hlen, hcell⟩ := World.cells?_some hc
      have hlt : 0 < cs'.length := by omega
      have := hcell 0 (by omega)
      rw [List.getElem?_eq_getElem hlt] at this
      have := (cell_some this).2
      simpa [Addr.add] using this
    have hadd : ∀ o j, (⟨bk, o, none⟩ : Addr).add j = ⟨bk, o + j, none⟩ := fun o j => by unfold Addr.add; split <;> simp_all
    have hone : ∀ i, i < len → ∃ dd : Dd, sp = none ∧ dd.At W bk (o + i * 3) ∧ dd.k ≤ 140737488351232 ∧ dd.n ≤ 9223372036854775807 := by
      intro i hi
      have hs := hsp (by omega)
      subst hs
      obtain ⟨cs', hc, ht⟩ := hall i (by omega)
      obtain ⟨y0, y1, y2, n', hDi, hlen, h0, h1, h2⟩ := trod_struct3 Try.underlying42 ht
      rw [e3] at hlen
      obtain ⟨_, _, hcell⟩ := World.cells?_some hc
      match cs', hlen with
      | [v0, v1, v2], _ =>
        simp only [ei, es, List.drop_zero, List.drop_succ_cons, List.take_succ_cons, List.take_zero] at h0 h1 h2
        obtain ⟨n0, hn0, _, _⟩ := DataW.trod_int Try.underlying3 h0
        obtain ⟨n1, hn1, _, hn1w⟩ := DataW.trod_int Try.underlying3 h1
        obtain ⟨a2, k2, c2, l2, hc2, hb2, hm2, hd2⟩ := bs_of_trod Try.underlying28 Try.underlying5 (by kernel_rfl) h2
        simp only [List.cons.injEq, and_true] at hn0 hn1 hc2
        subst hn0 hn1 hc2
        have c0 := hcell 0 (by omega)
        have c1 := hcell 1 (by omega)
        have c2' := hcell 2 (by omega)
        rw [hadd, hadd] at c0 c1 c2'
        refine ⟨⟨n0, n1, a2, k2, c2, l2⟩, rfl, ⟨c0, c1, c2', hb2, Nat.le_trans hb2.cap hm2⟩, ?_, ?_⟩
        · show k2 ≤ _
          have hr2 : reachBytes = 140737488351232 := rfl
          rcases hd2 with ⟨_, h0⟩ | ⟨es, sp, hd2, hl2⟩
          · have := hb2.cap; omega
          · have hmem : c2 * 1 ∈ (D i).weights Try.prog 42 := by
              have e1 : D i = .agg [y0.1, y1.1, y2.1] := congrArg Prod.fst hDi
              rw [e1, hd2]
              simp only [DataW.weights, Try.underlying42, Try.underlying28, DataW.weightsEach, List.map_cons, List.mem_append]
              refine .inr (.inr (.inl ?_))
              rw [hl2, show Try.prog.bytesOf 5 = 1 by kernel_rfl]
              exact List.mem_cons_self
            have hall2 : c2 * 1 ∈ d.weights Try.prog 40 := by
              rw [hx.1]
              simp only [DataW.weights, Try.underlying40]
              refine List.mem_cons_of_mem _ (List.mem_append.2 (.inl (weightsAll_mem hmem _ ?_)))
              exact List.mem_map.2 ⟨i, List.mem_range.2 hi, rfl⟩
            have := hwt _ hall2
            have := hb2.cap
            omega
        · show n1 ≤ _
          have : -9223372036854775808 ≤ n1 ∧ n1 ≤ 9223372036854775807 := by simpa [Lit.wf, IntKind.min, IntKind.max, IntKind.bits, IntKind.signed] using hn1w
          exact this.2
    have hall' : ∃ l : List Dd, l.length = len ∧ ∀ (i : Nat) (d : Dd), l[i]? = some d → sp = none ∧ d.At W bk (o + i * 3) ∧ d.k ≤ 140737488351232 ∧ d.n ≤ 9223372036854775807 := by
      have : ∀ k, k ≤ len → ∃ l : List Dd, l.length = k ∧ ∀ (i : Nat) (d : Dd), l[i]? = some d → sp = none ∧ d.At W bk (o + i * 3) ∧ d.k ≤ 140737488351232 ∧ d.n ≤ 9223372036854775807 := by
        intro k
        induction k with
        | zero => exact fun _ => ⟨[], rfl, fun i d h => by simp at h⟩
        | succ k ih =>
          intro hk
          obtain ⟨l, hl1, hl2⟩ := ih (by omega)
          obtain ⟨dd, hd1, hd2⟩ := hone k (by omega)
          refine ⟨l ++ [dd], by simp [hl1], fun i d h => ?_⟩
          rcases Nat.lt_or_ge i l.length with hi | hi
          · rw [List.getElem?_append_left hi] at h; exact hl2 i d h
          · rw [List.getElem?_append_right hi] at h
            have : i - l.length = 0 := by
              rcases Nat.eq_zero_or_pos (i - l.length) with h0 | h0
              · exact h0
              · rw [List.getElem?_eq_none (by simp; omega)] at h; cases h
            rw [this] at h
            simp only [List.getElem?_cons_zero, Option.some.injEq] at h
            subst h
            have : i = k := by omega
            subst this
            exact ⟨hd1, hd2⟩
      exact this len (Nat.le_refl _)
    obtain ⟨l, hl1, hl2⟩ := hall'
    refine ⟨l, ⟨hl1.symm, fun i d h => ?_⟩, .inr ⟨_, _, hx.1, by simp; omega⟩, hl, fun x hxm => ?_⟩
    rotate_left
    · obtain ⟨i, hi⟩ := List.getElem?_of_mem hxm
      exact (hl2 i x hi).2.2
    obtain ⟨hs, hat, _⟩ := hl2 i d h
    subst hs
    exact ⟨bk, o, rfl, hat⟩
end Go.Proofs.Ythgejjlhfdegeaa
