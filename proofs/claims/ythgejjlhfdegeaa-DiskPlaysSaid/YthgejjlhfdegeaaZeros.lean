/- append of so many noughts ('append(x, make([]T, k)...)', which the translation hands the number k). No program in sight. -/
import Derived.Test.YthgejjlhfdegeaaBase
import Derived.Lib.AppendZerosOnto
namespace Go.Proofs.Ythgejjlhfdegeaa
open Go.RowKit

/-- So many noughts (a name of its own: the walk writes 'replicate' out). -/
def zcells (z : Value) (k : Nat) : List Value := List.replicate k z
theorem zcells_length (z : Value) (k : Nat) : (zcells z k).length = k := List.length_replicate
theorem zcells_u8 (k : Nat) : zcells (.int .u8 0) k = bcells (List.replicate k 0) := by simp [zcells, bcells, bcell]

theorem zeroCells_one (z : Value) (k : Nat) : (Builtin.zeroCells #[z] k).toList = List.replicate k z := by
  apply List.ext_getElem?
  intro j
  simp only [Builtin.zeroCells, Array.getElem?_toList, Array.getElem?_map]
  by_cases hj : j < k
  · simp [hj, Nat.mod_one]
  · simp [hj]

section
variable {P : Program} {w : World} {ops : Array Oper} {rest : List Oper} {o : Oper} {a : Act} {Q : Exit → Act → World → Prop}

theorem run_app_zeros (s x : Operand) (t tn : TypeId) (hop : o.op = .call { callee := .builtin .append, args := #[s, x], argTypes := #[t, tn] })
    (e : TypeId) (i : TypeInfo) (z : Value) (bytes : Nat) (kn kq : IntKind) (ht : P.underlying t = some (.slice e)) (htn : P.underlying tn = some (.int kn)) (hi : P.info? e = some i) (hz : i.zero = some z)
    (hsize : i.size = 1) (hby : i.bytes = bytes) (hzs : z.cells = #[z]) (hz1 : z.oneCell' = true)
    (sa : Option Addr) (n sc : Nat) (xs : List Value) (hs : a.eval s = .slice sa n sc) (hown : w.ownsRow 0 e 1 (.slice sa n sc) n xs)
    (k : Nat) (hx : a.eval x = .int kq k) (h0 : 0 < k) (hbytes : (n + k) * bytes ≤ 140737488355328) (hb0 : 0 < bytes) :
    ∃ a' c' w', (execOp a.eval o).run P w = .ok (.value (.slice a' (n + k) c')) w' ∧ w'.ownsRow 0 e 1 (.slice a' (n + k) c') (n + k) (xs ++ zcells z k) ∧ Chg (fun k => ∃ b, sa = some b ∧ b.block = k) w w' ∧ (∀ k, (∃ b, a' = some b ∧ b.block = k) → (∃ b, sa = some b ∧ b.block = k) ∨ w.heap.size ≤ k) := by
  subst hby
  unfold zcells
  have hle : n + k ≤ 140737488355328 := Nat.le_trans (Nat.le_mul_of_pos_right _ hb0) hbytes
  have hkb : k * i.bytes ≤ 140737488355328 := Nat.le_trans (Nat.mul_le_mul_right _ (Nat.le_add_left k n)) hbytes
  have hlen : (xs ++ List.replicate k z).length = (n + k) * 1 := by rw [List.length_append, hown.1, List.length_replicate]; omega
  have hw : IntKind.i64.wrap (k : Int) = k := by rw [IntKind.wrap_i64]; omega
  have hneg : ¬ ((k : Int) < 0) := by omega
  have h48i : ¬ (281474976710656 < (k : Int) * (i.bytes : Int)) := by
    rw [← Int.natCast_mul]
    omega
  have grow : sc < n + k → (Builtin.firstCells i.size n (.slice sa n sc)).run P w.drew = .ok xs.toArray w.drew → ∃ a' c' w', (execOp a.eval o).run P w = .ok (.value (.slice a' (n + k) c')) w' ∧ w'.ownsRow 0 e 1 (.slice a' (n + k) c') (n + k) (xs ++ List.replicate k z) ∧ Chg (fun k => ∃ b, sa = some b ∧ b.block = k) w w' ∧ (∀ k, (∃ b, a' = some b ∧ b.block = k) → (∃ b, sa = some b ∧ b.block = k) ∨ w.heap.size ≤ k) := by
    intro hg hold
    have hr := Lib.run_append_grow_zeros (P := P) w t tn o.type e i z kq kn ht htn hi hz sa n sc xs hold k h0 (by omega) hg (by omega) (by omega) (growslice_fits hg hbytes)
    have hge := grownCap_ge w (n + k) sc e
    have hcm : grownCap w (n + k) sc e ≤ maxLen := grownCap_le_maxLen w (n + k) sc e (by unfold maxLen; omega)
    obtain ⟨A, hA⟩ : ∃ A, A = xs.toArray ++ Builtin.zeroCells z.cells k ++ Builtin.zeroCells z.cells (grownCap w (n + k) sc e - (n + k)) := ⟨_, rfl⟩
    rw [← hA] at hr
    refine ⟨some ⟨w.heap.size, 0, none⟩, grownCap w (n + k) sc e, w.drew.alloc (.cells A e), ?_, ⟨hlen, .inr ⟨w.heap.size, grownCap w (n + k) sc e, A, rfl, Nat.zero_le _, heap_alloc_new w.drew _, hge, hcm, ?_, ?_⟩⟩, (Chg.drew _ _).trans (Chg.alloc _ _ _), ?_⟩
    · unfold execOp
      simp only [hop, resolve, invoke, builtin, Sem.run_bind, Sem.run_pure, Result.andThen_ok, List.map_toArray, List.map_cons, List.map_nil, hs, hx, hr]
    · rw [hA]
      simp only [Array.size_append, List.size_toArray, size_zeroCells, hzs, hown.1, List.length_cons, List.length_nil]
      omega
    · rw [hA]
      simp only [hzs, Array.toList_append, zeroCells_one, List.append_assoc]
      rw [← List.append_assoc, ← hlen]
      exact List.take_left
    · rintro j ⟨b, hb, rfl⟩
      cases hb
      exact .inr (Nat.le_refl _)
  rcases hown.2 with ⟨hv, hn0⟩ | ⟨g, cap, cur, hv, _, hg, hnc, hcm, hcs, htake⟩
  · simp only [Value.slice.injEq] at hv
    obtain ⟨rfl, rfl, rfl⟩ := hv
    have hx0 : xs = [] := List.eq_nil_of_length_eq_zero (by simpa using hown.1)
    subst hx0
    exact grow (by omega) (by rw [run_firstCells_none])
  · simp only [Value.slice.injEq] at hv
    obtain ⟨rfl, _, rfl⟩ := hv
    by_cases hroom : n + k ≤ sc
    · have hnews1 : ∀ u ∈ List.replicate k z, u.oneCell' = true := fun u hu => by rw [(List.mem_replicate.1 hu).2]; exact hz1
      have hst := run_storeCells_at P g n e (List.replicate k z) 0 cur w hg (by rw [List.length_replicate, hcs]; omega) hnews1
      simp only [Nat.add_zero, List.length_replicate] at hst
      have hr : (Builtin.append_ #[t, tn] o.type #[.slice (some ⟨g, 0, none⟩) n sc, .int kq k]).run P w = .ok (.slice (some ⟨g, 0, none⟩) (n + k) sc) (w.setRow g (cur.toList.take n ++ List.replicate k z ++ cur.toList.drop (n + k)).toArray) := by
        have hk : k ≠ 0 := by omega
        simp [Builtin.append_, run_underlying ht, run_underlying htn, sizeOf, typeInfo, zeroValue, hi, hz, hsize, asInt, asIntOf, hw, hneg, h48i, hroom, hk, hzs, zeroCells_one, Addr.add_lit, hst]
      refine ⟨some ⟨g, 0, none⟩, sc, w.setRow g (cur.toList.take n ++ List.replicate k z ++ cur.toList.drop (n + k)).toArray, ?_, ⟨hlen, .inr ⟨g, sc, (cur.toList.take n ++ List.replicate k z ++ cur.toList.drop (n + k)).toArray, rfl, Nat.zero_le _, setRow_heap w g cur _ e _ hg, hroom, hcm, ?_, ?_⟩⟩, Chg.setRow w ⟨_, rfl, rfl⟩ _, fun j hj => .inl hj⟩
      · unfold execOp
        simp only [hop, resolve, invoke, builtin, Sem.run_bind, Sem.run_pure, Result.andThen_ok, List.map_toArray, List.map_cons, List.map_nil, hs, hx, hr]
      · simp only [List.size_toArray, List.length_append, List.length_take, List.length_drop, Array.length_toList, List.length_replicate]
        omega
      · simp only [Nat.mul_one] at htake ⊢
        rw [htake]
        have : (xs ++ List.replicate k z).length = n + k := by omega
        rw [← this]
        exact List.take_left
    · have holds : ∀ j u, xs[j]? = some u → w.cell? ((⟨g, 0, none⟩ : Addr).add j) = some u := hown.cells (g := g) rfl
      exact grow (by omega) (run_firstCells_some (P := P) w.drew i.size n ⟨g, 0, none⟩ n sc xs (by rw [hown.1, hsize]) (by simpa using holds))

theorem wpList_app_zeros (hg : o.guard = none) (s x : Operand) (t tn : TypeId) (hop : o.op = .call { callee := .builtin .append, args := #[s, x], argTypes := #[t, tn] })
    (e : TypeId) (i : TypeInfo) (z : Value) (bytes : Nat) (kn kq : IntKind) (ht : P.underlying t = some (.slice e)) (htn : P.underlying tn = some (.int kn)) (hi : P.info? e = some i) (hz : i.zero = some z)
    (hsize : i.size = 1) (hby : i.bytes = bytes) (hzs : z.cells = #[z]) (hz1 : z.oneCell' = true)
    (sa : Option Addr) (n sc : Nat) (xs : List Value) (hs : a.eval s = .slice sa n sc) (hown : w.ownsRow 0 e 1 (.slice sa n sc) n xs)
    (k : Nat) (hx : a.eval x = .int kq k) (h0 : 0 < k) (hbytes : (n + k) * bytes ≤ 140737488355328) (hb0 : 0 < bytes)
    (h : ∀ a' c' w', w'.ownsRow 0 e 1 (.slice a' (n + k) c') (n + k) (xs ++ zcells z k) → Chg (fun k => ∃ b, sa = some b ∧ b.block = k) w w' → (∀ k, (∃ b, a' = some b ∧ b.block = k) → (∃ b, sa = some b ∧ b.block = k) ∨ w.heap.size ≤ k) → wpList P ops Q rest (a.put o.dst (.slice a' (n + k) c')) w') :
    wpList P ops Q (o :: rest) a w := by
  obtain ⟨a', c', w', hr, r1, r2, r3⟩ := run_app_zeros (P := P) (o := o) (a := a) (w := w) s x t tn hop e i z bytes kn kq ht htn hi hz hsize hby hzs hz1 sa n sc xs hs hown k hx h0 hbytes hb0
  exact wpList_run hg hr (h a' c' w' r1 r2 r3)
end
end Go.Proofs.Ythgejjlhfdegeaa
