/- The lock's small functions: New, goes. -/
import Derived.Test.YtjnbbmchmkiodaaLk
namespace Go.Proofs.Ytjnbbmchmkiodaa
open Go.RowKit Go.MapKept

def goesP (p : PlM) (owner mode : Int) : Prop := ∀ u m, p.held u = some m → u ≠ owner → togB m mode = true

def roleNew (n k : Nat) : Role := if k = n then .mp else if k = n + 1 then .mw else if k = n + 2 then .mn else if k = n + 3 then .tab else .none

theorem new_tab (w : World) : Calls Try.prog 16 #[] w fun e w' => e = .returned (.pointer (some ⟨w.heap.size + 3, 0, none⟩)) ∧ Tab w' (w.heap.size + 3) TM.empty ⟨w.heap.size, w.heap.size + 1, w.heap.size + 2, fun _ => ⟨0, 0, none, 0⟩, fun _ => 0⟩ (roleNew w.heap.size) ∧ Chg NoB w w' := by
  have hmm := @run_makeMap Try.prog
  go_enter Try.func16, Try.ntmps16
  go_wp2_with fail
  go_ret
  have h1 := MapAt.made w .string encS
  have h2 := MapAt.made (w.alloc (.map #[] 0)) (.int .u64) encU
  have h3 := MapAt.made ((w.alloc (.map #[] 0)).alloc (.map #[] 0)) (.int .u64) encU
  have c1 := Chg.alloc NoB (w.alloc (.map #[] 0)) (.map #[] 0)
  have c2 := Chg.alloc NoB ((w.alloc (.map #[] 0)).alloc (.map #[] 0)) (.map #[] 0)
  have c3 := Chg.alloc NoB (((w.alloc (.map #[] 0)).alloc (.map #[] 0)).alloc (.map #[] 0)) (.cells #[.map (some w.heap.size), .map (some (w.heap.size + 1)), .map (some (w.heap.size + 2))] 66)
  refine ⟨rfl, ⟨heap_alloc_new' _ (by simp) _, ((h1.chg c1 (fun f => f)).chg c2 (fun f => f)).chg c3 (fun f => f), ?_, ?_, (fun s p hp => by cases hp), (fun o f hf => by cases hf), ?_, ?_, ?_, ?_, ?_⟩, (((Chg.alloc NoB w _).trans c1).trans c2).trans c3⟩
  · have := (h2.chg c2 (fun f => f)).chg c3 (fun f => f)
    simp only [World.size_alloc] at this
    exact this
  · have := h3.chg c3 (fun f => f)
    simp only [World.size_alloc] at this
    exact this
  · simp [roleNew]
  · simp [roleNew]
  · simp [roleNew]
  · simp [roleNew]
  · intro k hk
    unfold roleNew at hk
    simp only [World.size_alloc]
    repeat' split at hk
    all_goals first | omega | exact absurd rfl hk

/-- Goes: with all that others hold. -/
theorem goes_calls {w : World} {L : PlL} {p : PlM} (h : PlAt w L p) (owner mode : Int) (b : Bool) (hb : b = true ↔ goesP p owner mode) :
    Calls Try.prog 29 #[.pointer (some ⟨L.pb, 0, none⟩), .int .u64 owner, .int .i64 mode] w fun e w' => e = .returned (.bool b) ∧ Chg NoB w w' := by
  have c0 : w.cell? ⟨L.pb, 0, none⟩ = some (.map (some L.hb)) := by rw [cell_of_row w _ _ _ _ _ h.blk]; rfl
  have HB := hide hb; clear hb
  have hM := h.held
  go_enter Try.func29, Try.ntmps29
  go_wp2_with (at_range; refine wpList_rng rfl _ 68 rfl 29 3 Try.underlying68 L.hb rfl hM ?_; intro w2 hr2 hc2 hs2)
  try go_frame
  go_loopw [7] (fun _ wr => ∃ V, Ranges wr L.hb w.heap.size (.int .u64) encU (heldF p) V ∧ Chg NoB w wr ∧ ∀ k, V k → ∀ m, p.held k = some m → k ≠ owner → togB m mode = true) (fun _ wr => wr.rangeLeft L.hb w.heap.size)
  case atStart => exact ⟨_, hr2, hc2, fun k hk => hk.elim⟩
  case round =>
    obtain ⟨V, hrg, hch, hall⟩ := hrel
    clear hr2 hc2 hs2
    have HALL := hide hall; clear hall
    go_wp2_with (at_next; refine wpList_nxt rfl _ rfl L.hb w.heap.size rfl hrg ?_ ?_)
    · intro _ hv
      have hb1 : b = true := HB.out.2 (fun u m hu hne => HALL.out u (hv u _ (by simp [heldF, hu]; rfl)) m hu hne)
      subst hb1
      go_wp2_with fail
      go_ret
      exact ⟨rfl, hch⟩
    · intro k v w3 hfk hnv hrg3 hlt3 hc3 hs3 hen
      obtain ⟨md, hmd, rfl⟩ : ∃ md, p.held k = some md ∧ v = .int .i64 md := by
        unfold heldF at hfk
        cases hh : p.held k with
        | none => rw [hh] at hfk; cases hfk
        | some md => rw [hh] at hfk; simp at hfk; exact ⟨md, rfl, hfk.symm⟩
      unfold encU at hen
      have hch3 : Chg NoB w w3 := hch.trans' hc3 (fun i hi => .inr (by have : i = w.heap.size := hi; omega))
      have HRG := hide hrg3; have HMD := hide hmd
      clear hfk hrg3 hmd hch hrg
      by_cases hko : k = owner
      · have e0 : (k != owner) = false := by simp [hko]
        have hall3 : ∀ x, (V x ∨ encU x = encU k) → ∀ m, p.held x = some m → x ≠ owner → togB m mode = true := by
          rintro x (hx | hx) m hm hne
          · exact HALL.out x hx m hm hne
          · exact absurd ((encU_inj _ _ hx).trans hko) hne
        have H3 := hide hall3; clear hall3 hko
        go_wp2_with fail
        go_roundw
        case rel => exact ⟨_, HRG.out, hch3, H3.out⟩
        case measure => exact hlt3
      · have e0 : (k != owner) = true := by simp [hko]
        have HKO := hide hko
        clear hko
        cases ht : togB md mode
        · have hb0 : b = false := by
            cases hb : b
            · rfl
            · exact absurd (HB.out.1 hb k md HMD.out HKO.out) (by rw [ht]; simp)
          have HT := hide ht; clear ht
          subst hb0
          go_wp2_with fail
          refine (together_calls md mode _).mono ?_
          rw [HT.out]
          rintro e w4 ⟨rfl, hc4⟩
          go_wp2_with fail
          go_ret
          exact ⟨rfl, hch3.trans hc4⟩
        · have hall3 : ∀ x, (V x ∨ encU x = encU k) → ∀ m, p.held x = some m → x ≠ owner → togB m mode = true := by
            rintro x (hx | hx) m hm hne
            · exact HALL.out x hx m hm hne
            · have := encU_inj _ _ hx
              subst this
              rw [HMD.out] at hm
              cases hm
              exact ht
          have H3 := hide hall3; have HT := hide ht; clear hall3 ht
          go_wp2_with fail
          refine (together_calls md mode _).mono ?_
          rw [HT.out]
          rintro e w4 ⟨rfl, hc4⟩
          go_wp2_with fail
          go_roundw
          case rel => exact ⟨_, HRG.out.chg hc4 (fun f => f) (fun f => f), hch3.trans hc4, H3.out⟩
          case measure => rw [rangeLeft_chg hc4 (fun f => f) (fun f => f) HRG.out.map.lt HRG.out.ltr]; exact hlt3
end Go.Proofs.Ytjnbbmchmkiodaa
