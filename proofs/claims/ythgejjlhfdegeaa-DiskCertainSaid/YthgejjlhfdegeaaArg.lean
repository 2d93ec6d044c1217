/- What comes in: byte slices. -/
import Derived.Test.YthgejjlhfdegeaaBase
import Derived.ProofKit
import Derived.OpenShut
import Derived.ShutString
import Derived.ChangeOld
import Derived.Below
import Derived.SizedLaws
namespace Go.Proofs.Ythgejjlhfdegeaa
open Go.RowKit Go.ChangeShapes Go.WideShapes Go.ChangeAt

theorem shape_lt {w : World} {b : Nat} {x : TypeId × Nat} (h : w.shape? b = some x) : b < w.heap.size := by
  unfold World.shape? at h
  split at h
  · rename_i e; exact heap_lt e
  · cases h

theorem byte_of_wf {n : Int} (h : (Lit.int .u8 n).wf = true) : ((UInt8.ofNat n.toNat).toNat : Int) = n := by
  have h' : 0 ≤ n ∧ n ≤ 255 := by simpa [Lit.wf, IntKind.min, IntKind.max, IntKind.bits, IntKind.signed] using h
  simp
  omega

/-- A slice of bytes that came in: it reads as bytes; its reach. -/
theorem bs_of_arg {P : Program} {H : Type} {enc : TypeId × Value → H} {W : World} {t e : TypeId} (ht : P.underlying t = some (.slice e)) (he : P.underlying e = some (.int .u8)) (hc : P.cellsOf e = 1)
    {base : Nat} {a : Option Addr} {len cap : Nat} {d : DataW H} {p : List MemPlace} (hok : Value.okWide P W .any base t (.slice a len cap))
    (h : DataW.Trod enc P W 0 (fun _ => true) true t (.slice a len cap) d p) :
    ∃ l, BS W a len cap l ∧ ((d = .nil ∧ cap = 0) ∨ ∃ es sp, d = .slice es sp ∧ es.length + sp.length = cap) := by
  obtain ⟨fuel, hf⟩ := h
  rcases open_ints ht he hc hf with ⟨hcs, hx⟩ | ⟨x, l, c, zs, hcs, _, hl, hm, hz, hx, hcell, hwz⟩
  · simp [Value.cells] at hcs
    obtain ⟨rfl, rfl, rfl⟩ := hcs
    simp only [Prod.mk.injEq] at hx
    exact ⟨[], BS.nil' W, .inl ⟨hx.1, rfl⟩⟩
  · simp [Value.cells] at hcs
    obtain ⟨rfl, rfl, rfl⟩ := hcs
    simp only [Prod.mk.injEq] at hx
    simp only [if_true] at hz
    have hhas : W.has P .any base x e cap := by
      simp only [Value.okWide, ht, Cell.okWide] at hok
      simp only [Cell.ok, ht] at hok
      exact hok.2.2
    obtain ⟨_, hsp, row, cells, hsh, _⟩ := hhas
    refine ⟨(zs.take len).map fun n => UInt8.ofNat n.toNat, ⟨?_, hl, (fun h => by cases h), ?_, (fun b hb => by cases hb; exact shape_lt hsh), (fun b hb => by cases hb; exact hsp)⟩, .inr ⟨_, _, hx.1, ?_⟩⟩
    · simp; omega
    · rintro b hb j u hu
      cases hb
      have hj : j < len ∧ j < zs.length := by
        rcases Nat.lt_or_ge j (bcells ((zs.take len).map fun n => UInt8.ofNat n.toNat)).length with hh | hh
        · simp [bcells_length] at hh; omega
        · rw [List.getElem?_eq_none hh] at hu; cases hu
      rw [hcell j hj.2]
      have hz' : zs.getD j 0 = zs[j] := by simp [List.getD, hj.2]
      simp [bcells, bcell, hj.1, hj.2] at hu
      rw [hz', ← hu]
      have := byte_of_wf (hwz zs[j] (List.getElem_mem hj.2))
      simp at this ⊢
      omega
    · simp [lits]; omega
end Go.Proofs.Ythgejjlhfdegeaa
