/- Victim; Queue. -/
import Derived.Test.YtjnbbmchmkiodaaLkW
namespace Go.Proofs.Ytjnbbmchmkiodaa
open Go.RowKit Go.MapKept

set_option linter.unusedSimpArgs false
set_option linter.unusedVariables false
/-- On a ring through x. -/
def ringed (m : TM) (x u : Int) : Prop := u = x ∨ (Reach m x u ∧ Reach m u x)
def isVict (m : TM) (x v : Int) : Prop := ringed m x v ∧ ∀ u, ringed m x u → u ≤ v
def VictR (w : World) (m : TM) (x : Int) (e : Ending) (w' : World) : Prop := Chg NoB w w' ∧ ((¬ Reach m x x ∧ e = .returned (.tuple #[.int .u64 0, .bool false])) ∨ (Reach m x x ∧ ∃ v, isVict m x v ∧ e = .returned (.tuple #[.int .u64 v, .bool true])))

set_option maxHeartbeats 2000000 in
set_option maxRecDepth 100000 in
theorem victim_calls {w : World} {tb : Nat} {m : TM} {L : TL} {ρ : Nat → Role} {U : List Int} (hK : Known m U) (h : Tab w tb m L ρ) (x : Int) :
    Calls Try.prog 22 #[.pointer (some ⟨tb, 0, none⟩), .int .u64 x] w (VictR w m x) := by
  have HK := hide hK; have HH := hide h
  clear hK h
  go_enter Try.func22, Try.ntmps22
  go_wp2_with fail
  refine (reached_calls HK.out HH.out x).mono ?_
  rintro e w1 ⟨mb, V, rfl, hmb, hM, hV, hc1⟩
  have HM := hide hM; have HV := hide hV; have HC1 := hide hc1; have HMB := hide hmb
  clear hM hV hc1 hmb
  by_cases hx : V x = true
  · have HL : Hid (setU V x = some (.agg #[])) := hide (by simp [setU, hx])
    have HR := hide ((HV.out x).1 hx)
    clear hx
    have hma := HM.out.chg (Chg.alloc NoB w1 (.cells #[] 86)) (fun f => f)
    have HMA := hide hma; have HCA := hide (HC1.out.trans (Chg.alloc _ w1 (.cells #[] 86)))
    clear hma
    go_upto_region 3 with (at_lookup; refine wpList_look_some rfl (.tmp 17) (.tmp 18) 90 rfl 29 86 (.agg #[]) Try.underlying90 Try.underlying29 encU_key zeroUnit mb rfl HM.out x rfl _ HL.out ?_)
    generalize w1.alloc (.cells #[] 86) = w2 at HMA HCA ⊢
    generalize w1.heap.size = xb
    go_wp2_with (at_range; refine wpList_rng rfl _ 90 rfl 29 86 Try.underlying90 mb rfl HMA.out ?_; intro w3 hr3 hc3 hs3)
    try go_frame
    have HR3 := hide hr3; have HC3 := hide (HCA.out.trans hc3)
    have hlt2 : w.heap.size ≤ w2.heap.size := HCA.out.size
    clear hr3 hc3 hs3
    go_loopw [9] (fun ov wr => ∃ (Vs : Int → Prop) (v : Int), ov = .int .u64 v ∧ Ranges wr mb w2.heap.size (.int .u64) encU (setU V) Vs ∧ Chg NoB w wr ∧ ringed m x v ∧ x ≤ v ∧ ∀ u, Vs u → V u = true → Reach m u x → u ≤ v) (fun _ wr => wr.rangeLeft mb w2.heap.size)
    case atStart => exact ⟨_, x, rfl, HR3.out, HC3.out, .inl rfl, Int.le_refl _, fun u hu => hu.elim⟩
    case round =>
      obtain ⟨Vs, v, rfl, hrg, hch, hri, hxv, hall⟩ := hrel
      have HCH := hide hch; have HRI := hide hri; have HXV := hide hxv; have HALL := hide hall
      clear hch hri hxv hall HR3 HC3
      go_wp2_with (at_next; refine wpList_nxt rfl _ rfl mb w2.heap.size rfl hrg ?_ ?_)
      · intro _ hv
        have hfin : isVict m x v := ⟨HRI.out, fun u hu => by
          rcases hu with rfl | ⟨h1, h2⟩
          · exact HXV.out
          · have hVu := (HV.out u).2 h1
            exact HALL.out u (hv u (.agg #[]) (by simp [setU, hVu])) hVu h2⟩
        have HFIN := hide hfin
        clear hv hfin
        go_wp2_with fail
        go_ret2
        exact ⟨HCH.out, .inr ⟨HR.out, v, HFIN.out, rfl⟩⟩
      · intro k z w4 hfk hnv hrg4 hlt4 hc4 hs4 hen
        have hVk : V k = true := by
          unfold setU at hfk
          split at hfk
          · assumption
          · cases hfk
        have hz : z = .agg #[] := by
          unfold setU at hfk
          rw [if_pos hVk] at hfk
          exact (Option.some.inj hfk).symm
        subst hz
        unfold encU at hen
        have hch4 : Chg NoB w w4 := HCH.out.trans' hc4 (fun i hi => .inr (by have : i = w2.heap.size := hi; omega))
        have HRG := hide hrg4; have HVK := hide hVk; have HCH4 := hide hch4
        clear hfk hrg4 hVk hch4 hrg hc4
        by_cases hle : k ≤ v
        · have hall2 : ∀ u, (Vs u ∨ encU u = encU k) → V u = true → Reach m u x → u ≤ v := by
            rintro u (hu | hu) h1 h2
            · exact HALL.out u hu h1 h2
            · rw [encU_inj _ _ hu]; exact hle
          have H2 := hide hall2
          clear hall2
          go_wp2_with fail
          go_roundw
          case rel => exact ⟨_, v, rfl, HRG.out, HCH4.out, HRI.out, HXV.out, H2.out⟩
          case measure => exact hlt4
        · have hle2 : v < k := by omega
          go_wp2_with fail
          refine (reached_calls HK.out (HH.out.chg0 HCH4.out) k).mono ?_
          rintro e w5 ⟨mb5, V5, rfl, -, hM5, hV5, hc5⟩
          have HM5 := hide hM5; have HV5 := hide hV5; have HC5 := hide hc5
          clear hM5 hV5 hc5
          have hrgA := (HRG.out.chg HC5.out (fun f => f) (fun f => f)).chg (Chg.alloc NoB w5 (.cells #[] 86)) (fun f => f) (fun f => f)
          have hcA := (HCH4.out.trans HC5.out).trans (Chg.alloc _ w5 (.cells #[] 86))
          have hlA : (w5.alloc (.cells #[] 86)).rangeLeft mb w2.heap.size < wr.rangeLeft mb w2.heap.size := by
            refine lt_eq ?_ hlt4
            obtain ⟨es, clock, seen, h1, -, h3, -⟩ := HRG.out.ex
            exact rangeLeft_chg (HC5.out.trans (Chg.alloc NoB w5 (.cells #[] 86))) (fun f => f) (fun f => f) (heap_lt h1) (heap_lt h3)
          have HRA := hide hrgA; have HCA5 := hide hcA; have HLA := hide hlA; have HLE := hide hle2
          clear hrgA hcA hlA hlt4 hle hle2
          by_cases hx5 : V5 x = true
          · have HL5 : Hid (setU V5 x = some (.agg #[])) := hide (by simp [setU, hx5])
            have hri5 : ringed m x k := .inr ⟨(HV.out k).1 HVK.out, (HV5.out x).1 hx5⟩
            have hall2 : ∀ u, (Vs u ∨ encU u = encU k) → V u = true → Reach m u x → u ≤ k := by
              rintro u (hu | hu) h1 h2
              · have := HALL.out u hu h1 h2; have := HLE.out; omega
              · rw [encU_inj _ _ hu]; exact Int.le_refl _
            have hxk : x ≤ k := by have := HXV.out; have := HLE.out; omega
            have H2 := hide hall2; have HRI5 := hide hri5; have HXK := hide hxk
            clear hall2 hri5 hxk hx5
            go_wp2_with (at_lookup; refine wpList_look_some rfl (.tmp 37) (.tmp 38) 90 rfl 29 86 (.agg #[]) Try.underlying90 Try.underlying29 encU_key zeroUnit mb5 rfl HM5.out x rfl _ HL5.out ?_)
            go_roundw
            case rel => exact ⟨_, k, rfl, HRA.out, HCA5.out, HRI5.out, HXK.out, H2.out⟩
            case measure => exact HLA.out
          · have hx5f : V5 x = false := by simpa using hx5
            have HL5 : Hid (setU V5 x = none) := hide (by simp [setU, hx5f])
            have hall2 : ∀ u, (Vs u ∨ encU u = encU k) → V u = true → Reach m u x → u ≤ v := by
              rintro u (hu | hu) h1 h2
              · exact HALL.out u hu h1 h2
              · rw [encU_inj _ _ hu] at h2
                rw [(HV5.out x).2 h2] at hx5f; cases hx5f
            have H2 := hide hall2
            clear hall2 hx5 hx5f
            go_wp2_with (at_lookup; refine wpList_look_none rfl (.tmp 37) (.tmp 38) 90 rfl 29 86 (.agg #[]) Try.underlying90 Try.underlying29 encU_key zeroUnit mb5 rfl HM5.out x rfl HL5.out ?_)
            go_roundw
            case rel => exact ⟨_, v, rfl, HRA.out, HCA5.out, HRI.out, HXV.out, H2.out⟩
            case measure => exact HLA.out
  · have hxf : V x = false := by simpa using hx
    have HL : Hid (setU V x = none) := hide (by simp [setU, hxf])
    have hno : ¬ Reach m x x := fun hr => by rw [(HV.out x).2 hr] at hxf; cases hxf
    have HNO := hide hno
    clear hx hxf hno
    go_wp2_with (at_lookup; refine wpList_look_none rfl (.tmp 17) (.tmp 18) 90 rfl 29 86 (.agg #[]) Try.underlying90 Try.underlying29 encU_key zeroUnit mb rfl HM.out x rfl HL.out ?_)
    go_ret2
    exact ⟨HC1.out.trans (Chg.alloc _ _ _), .inl ⟨HNO.out, rfl⟩⟩
end Go.Proofs.Ytjnbbmchmkiodaa
