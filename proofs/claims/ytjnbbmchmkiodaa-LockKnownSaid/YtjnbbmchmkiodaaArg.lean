/- What comes in: byte slices. -/
import Derived.Test.YtjnbbmchmkiodaaBase
import Derived.ProofKit
import Derived.OpenShut
import Derived.ShutString
import Derived.ChangeOld
import Derived.Below
import Derived.SizedLaws
namespace Go.Proofs.Ytjnbbmchmkiodaa
open Go.RowKit Go.ChangeShapes Go.WideShapes Go.ChangeAt

theorem shape_lt {w : World} {b : Nat} {x : TypeId × Nat} (h : w.shape? b = some x) : b < w.heap.size := by
  unfold World.shape? at h
  split at h
  · rename_i e; exact heap_lt e
  · cases h

theorem byte_of_wf {n : Int} (h : (Lit.int .u8 n).wf = true) : ((UInt8.ofNat n.toNat).toNat : Int) = n := by
  have h' : 0 ≤ n ∧ n ≤ 255 := by simpa [Lit.wf, IntKind.min, IntKind.max, IntKind.bits, IntKind.signed] using h
  simp
  omega

/-- A slice of bytes as data: it reads as bytes. -/
theorem bs_of_trod {P : Program} {H : Type} {enc : TypeId × Value → H} {W : World} {t e : TypeId} (ht : P.underlying t = some (.slice e)) (he : P.underlying e = some (.int .u8)) (hc : P.cellsOf e = 1)
    {fuel : Nat} {cs : List Value} {y : DataW H × List MemPlace} (hf : DataW.trod enc P W 0 (fun _ => true) true fuel t cs = some y) :
    ∃ a len cap l, cs = [.slice a len cap] ∧ BS W a len cap l ∧ cap ≤ maxLen ∧ ((y.1 = .nil ∧ cap = 0) ∨ ∃ es sp, y.1 = .slice es sp ∧ es.length + sp.length = cap) := by
  rcases open_ints ht he hc hf with ⟨hcs, hx⟩ | ⟨x, l, c, zs, hcs, _, hl, hm, hz, hx, hcell, hwz⟩
  · subst hx
    exact ⟨none, 0, 0, [], hcs, BS.nil' W, Nat.zero_le _, .inl ⟨rfl, rfl⟩⟩
  · subst hx
    simp only [if_true] at hz
    refine ⟨some x, l, c, (zs.take l).map fun n => UInt8.ofNat n.toNat, hcs, ⟨?_, hl, (fun h => by cases h), ?_⟩, hm, .inr ⟨_, _, rfl, ?_⟩⟩
    · simp; omega
    · rintro b hb j u hu
      cases hb
      have hj : j < l ∧ j < zs.length := by
        rcases Nat.lt_or_ge j (bcells ((zs.take l).map fun n => UInt8.ofNat n.toNat)).length with hh | hh
        · simp [bcells_length] at hh; omega
        · rw [List.getElem?_eq_none hh] at hu; cases hu
      rw [hcell j hj.2]
      have hz' : zs.getD j 0 = zs[j] := by simp [List.getD, hj.2]
      simp [bcells, bcell, hj.1, hj.2] at hu
      rw [hz', ← hu]
      have := byte_of_wf (hwz zs[j] (List.getElem_mem hj.2))
      simp at this ⊢
      omega
    · simp [lits]; omega
/-- A slice of bytes that came in: it reads as bytes; its reach. -/
theorem bs_of_arg {P : Program} {H : Type} {enc : TypeId × Value → H} {W : World} {t e : TypeId} (ht : P.underlying t = some (.slice e)) (he : P.underlying e = some (.int .u8)) (hc : P.cellsOf e = 1)
    {a : Option Addr} {len cap : Nat} {d : DataW H} {p : List MemPlace}
    (h : DataW.Trod enc P W 0 (fun _ => true) true t (.slice a len cap) d p) :
    ∃ l, BS W a len cap l ∧ ((d = .nil ∧ cap = 0) ∨ ∃ es sp, d = .slice es sp ∧ es.length + sp.length = cap) := by
  obtain ⟨fuel, hf⟩ := h
  obtain ⟨a', len', cap', l, hcs, hb, _, hd⟩ := bs_of_trod ht he hc hf
  simp [Value.cells] at hcs
  obtain ⟨rfl, rfl, rfl⟩ := hcs
  exact ⟨l, hb, hd⟩
end Go.Proofs.Ytjnbbmchmkiodaa
