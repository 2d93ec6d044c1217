/- What Free calls: the closure, IndexFunc, DeleteFunc. -/
import Derived.Test.YtjnbbmchmkiodaaLkM
namespace Go.Proofs.Ytjnbbmchmkiodaa
open Go.RowKit Go.MapKept

set_option linter.unusedSimpArgs false
def isO (o : Int) (x : Int × Int) : Bool := x.1 == o
def idxO (q : List (Int × Int)) (o : Int) : Int := match q.findIdx? (isO o) with | some i => (i : Int) | none => -1
theorem idxO_at {q : List (Int × Int)} {o : Int} {i : Nat} {x : Int × Int} (hx : q[i]? = some x) (hb : isO o x = true) (hall : ∀ j, j < i → ∀ y, q[j]? = some y → isO o y = false) : idxO q o = i := by
  have hi : i < q.length := (List.getElem?_eq_some_iff.1 hx).1
  have : q.findIdx? (isO o) = some i := by
    rw [List.findIdx?_eq_some_iff_getElem]
    refine ⟨hi, ?_, fun j hj => ?_⟩
    · rw [List.getElem?_eq_getElem hi] at hx; cases hx; exact hb
    · have := hall j hj _ (List.getElem?_eq_getElem (by omega))
      simp [this]
  simp [idxO, this]
theorem idxO_none {q : List (Int × Int)} {o : Int} (hall : ∀ j, j < q.length → ∀ y, q[j]? = some y → isO o y = false) : idxO q o = -1 := by
  have : q.findIdx? (isO o) = none := by
    rw [List.findIdx?_eq_none_iff]
    intro x hx
    obtain ⟨j, hj, rfl⟩ := List.getElem_of_mem hx
    exact hall j hj _ (List.getElem?_eq_getElem hj)
  simp [idxO, this]

set_option maxHeartbeats 1000000 in
set_option maxRecDepth 100000 in
theorem same_calls {w : World} {o : Int} (tc : Nat) (hc : w.cell? ⟨tc, 0, none⟩ = some (.int .u64 o)) (ow md : Int) :
    Calls Try.prog 39 #[.agg #[.int .u64 ow, .int .i64 md], .pointer (some ⟨tc, 0, none⟩)] w fun e w' => e = .returned (.bool (ow == o)) ∧ Chg NoB w w' := by
  have hca := Chg.alloc NoB w (.cells #[.int .u64 ow, .int .i64 md] 77)
  have hc1 : (w.alloc (.cells #[.int .u64 ow, .int .i64 md] 77)).cell? ⟨tc, 0, none⟩ = some (.int .u64 o) := (hca.cell (cell_some hc).1 (fun f => f)).trans hc
  go_enter Try.func39, Try.ntmps39
  go_wp2_with fail
  go_ret
  exact ⟨rfl, hca⟩

set_option maxHeartbeats 1000000 in
set_option maxRecDepth 100000 in
theorem idxo_calls {w : World} {qa : Option Addr} {qc : Nat} {q : List (Int × Int)} (h : QAt w qa q.length qc q) (o : Int) (tc : Nat) (hc : w.cell? ⟨tc, 0, none⟩ = some (.int .u64 o)) (hn : q.length ≤ 5000000000000) :
    Calls Try.prog 31 #[.slice qa q.length qc, .func (.func 39) #[] #[.pointer (some ⟨tc, 0, none⟩)]] w fun e w' => e = .returned (.int .i64 (idxO q o)) ∧ Chg NoB w w' := by
  have HP := hide h
  have HC := hide hc
  clear h hc
  go_enter Try.func31, Try.ntmps31
  go_wp2_with fail
  go_loopw [8] (fun v wr => ∃ i : Nat, i ≤ q.length ∧ v = .int .i64 i ∧ Chg NoB w wr ∧ ∀ j, j < i → ∀ y, q[j]? = some y → isO o y = false) (fun v _ => q.length - (intOf v).toNat)
  case atStart => exact ⟨0, by omega, rfl, Chg.refl _ _, fun j hj => absurd hj (Nat.not_lt_zero _)⟩
  case round =>
    obtain ⟨i, hi, rfl, hch, hall⟩ := hrel
    have HALL := hide hall; clear hall
    by_cases hlt : i < q.length
    · have hx : q[i]? = some q[i] := List.getElem?_eq_getElem hlt
      have hP := HP.out.chg hch (fun _ _ f => f)
      have hcl := hch.cell (cell_some HC.out).1 (fun f => f) |>.trans HC.out
      obtain ⟨g, off, hqa, c1, c2⟩ := hP.cells hx
      subst hqa
      have HPr := hide hP; have HX := hide hx; have HCL := hide hcl
      generalize q[i] = x at *
      obtain ⟨ow, md⟩ := x
      simp only at c1 c2
      clear hP hx hcl
      have hlt' : (i : Int) < (q.length : Int) := by omega
      go_wp2_with fail
      refine (same_calls tc HCL.out ow md).mono ?_
      rw [show (ow == o) = isO o (ow, md) from rfl]
      rintro e w2 ⟨rfl, hc2⟩
      cases hb : isO o (ow, md)
      · have hall2 : ∀ j, j < i + 1 → ∀ y, q[j]? = some y → isO o y = false := by
          intro j hj y hy
          rcases Nat.lt_or_ge j i with h | h
          · exact HALL.out j h y hy
          · obtain rfl : j = i := by omega
            rw [HX.out] at hy; cases hy; exact hb
        have HA2 := hide hall2; clear hall2 hb
        go_wp2_with fail
        go_roundw
        case rel => exact ⟨i + 1, by omega, by go_num, hch.trans hc2, HA2.out⟩
        case measure => simp [intOf]; omega
      · have hI := idxO_at HX.out hb HALL.out
        have HI := hide hI; clear hI hb
        go_wp2_with fail
        go_ret
        rw [HI.out]
        exact ⟨rfl, hch.trans hc2⟩
    · obtain rfl : i = q.length := by omega
      have hN := idxO_none (fun j hj y hy => HALL.out j hj y hy)
      have HN := hide hN; clear hN
      have hlt' : ¬ (q.length : Int) < (q.length : Int) := by omega
      go_wp2_with fail
      go_ret
      rw [HN.out]
      exact ⟨rfl, hch⟩

end Go.Proofs.Ytjnbbmchmkiodaa
