/- LockKnown: the walk. -/
import Derived.Test.YtjnbbmchmkiodaaLkY
namespace Go.Proofs.Ytjnbbmchmkiodaa
open Go.RowKit Go.MapKept

set_option linter.unusedSimpArgs false
set_option linter.unusedVariables false
section
variable {w : World} {tb : Nat} {L : TL} {ρ : Nat → Role}
theorem kt_c3 (h : Tab w tb aw2 L ρ) : Calls Try.prog 17 #[.pointer (some ⟨tb, 0, none⟩), .int .u64 1, .string sA, .int .i64 4] w (AskR w tb (10, kt3) ρ) := by
  rw [← kt3_ask]
  exact ask_calls h 1 sA 4 (fun p hp _ => by rw [aw2_pl] at hp; cases hp; rfl) (fun p hp => by rw [aw2_pl] at hp; cases hp; simp [awB])
theorem kt_c4 (h : Tab w tb kt3 L ρ) : Calls Try.prog 17 #[.pointer (some ⟨tb, 0, none⟩), .int .u64 3, .string sA, .int .i64 1] w (AskR w tb (10, kt4) ρ) := by
  rw [← kt4_ask]
  exact ask_calls h 3 sA 1 (fun p hp hs => by rw [kt3_pl] at hp; cases hp; cases hs) (fun p hp => by rw [kt3_pl] at hp; cases hp; simp [awC])
theorem ku_c1 (h : Tab w tb TM.empty L ρ) : Calls Try.prog 17 #[.pointer (some ⟨tb, 0, none⟩), .int .u64 1, .string sB, .int .i64 4] w (AskR w tb (0, ku1) ρ) := by
  rw [← ku1_ask]
  exact ask_calls h 1 sB 4 (fun p hp => by cases hp) (fun p hp => by cases hp)
theorem ku_c2 (h : Tab w tb ku1 L ρ) : Calls Try.prog 17 #[.pointer (some ⟨tb, 0, none⟩), .int .u64 2, .string sC, .int .i64 4] w (AskR w tb (0, ku2) ρ) := by
  rw [← ku2_ask]
  exact ask_calls h 2 sC 4 (fun p hp => by rw [ku1_pl, if_neg bc_ne] at hp; cases hp) (fun p hp => by rw [ku1_pl, if_neg bc_ne] at hp; cases hp)
theorem ku_c3 (h : Tab w tb ku2 L ρ) : Calls Try.prog 17 #[.pointer (some ⟨tb, 0, none⟩), .int .u64 2, .string sB, .int .i64 3] w (AskR w tb (10, ku3) ρ) := by
  rw [← ku3_ask]
  exact ask_calls h 2 sB 3 (fun p hp hs => by rw [ku2_pl, if_neg bc_ne.symm, if_pos rfl] at hp; cases hp; cases hs) (fun p hp => by rw [ku2_pl, if_neg bc_ne.symm, if_pos rfl] at hp; cases hp; simp [pB1])
theorem ku_c4 (h : Tab w tb ku3 L ρ) : Calls Try.prog 17 #[.pointer (some ⟨tb, 0, none⟩), .int .u64 1, .string sC, .int .i64 3] w (AskR w tb (10, ku4) ρ) := by
  rw [← ku4_ask]
  exact ask_calls h 1 sC 3 (fun p hp hs => by rw [ku3_pl, if_pos rfl] at hp; cases hp; cases hs) (fun p hp => by rw [ku3_pl, if_pos rfl] at hp; cases hp; simp [pC1])
def KtF (w : World) (tb : Nat) (ρ : Nat → Role) (e : Ending) (w' : World) : Prop := ∃ v m' L' ρ', e = .returned v ∧ Rw w w' ρ' v [1] ∧ Tab w' tb m' L' ρ' ∧ TOwn w ρ w' ρ' ∧ (∃ p, m'.pl sA = some p ∧ p.held 1 = some 4) ∧ ∃ f, m'.names 1 = some f ∧ ∀ x, f x = true ↔ x = sA
theorem kt_free (h : Tab w tb kt4 L ρ) : Calls Try.prog 19 #[.pointer (some ⟨tb, 0, none⟩), .int .u64 2] w (KtF w tb ρ) := by
  refine (free_calls h 2 [sA] (fun x hx => ?_) (by simp) (fun x hx => ?_) kt4_sum).mono ?_
  · rw [(kt4_touched x).1 hx]; exact ⟨by simp, by decide⟩
  · rw [(kt4_touched x).1 hx]; exact ⟨_, kt4_pl⟩
  · rintro e w' ⟨ns, a, c, L', ρ', hnd, hmem, -, rfl, hrow, hb, hT', hO⟩
    have hns : ns = [sA] := ns_one hnd (fun x => (hmem x).trans (kt4_touched x))
    subst hns
    obtain ⟨e1, e2, e3⟩ := kt5_free
    rw [e1] at hrow ⊢
    exact ⟨_, _, L', ρ', rfl, ⟨a, c, rfl, hrow, hb⟩, hT', hO, e2, e3⟩
theorem lit_row {w wx : World} {ρ : Nat → Role} (xs : List Int) (hx : xs.length ≤ 100) (hs : w.heap.size ≤ wx.heap.size) (hf : ρ wx.heap.size = .none) : Rw w (wx.alloc (.cells (xs.map (Value.int .u64)).toArray 29)) ρ (.slice (some ⟨wx.heap.size, 0, none⟩) xs.length xs.length) xs :=
  ⟨some ⟨wx.heap.size, 0, none⟩, xs.length, rfl, ⟨by simp, .inr ⟨wx.heap.size, xs.length, _, rfl, Nat.zero_le _, heap_alloc_new wx _, Nat.le_refl _, by unfold maxLen; omega, by simp, by rw [List.take_of_length_le (by simp)]⟩⟩, fun b e => by cases e; exact ⟨hs, hf⟩⟩
end

set_option maxHeartbeats 2000000 in
set_option maxRecDepth 100000 in
theorem known_walk (w : World) : Calls Try.prog 9 #[] w fun e w' => e = .returned (.bool true) ∧ Chg NoB w w' := by
  go_enter Try.func9, Try.ntmps9
  go_wp2_with fail
  refine (new_tab w).mono ?_
  rintro e w1 ⟨rfl, hT, hc1⟩
  have hnew : ∀ k, roleNew w.heap.size k ≠ .none → w.heap.size ≤ k := fun k hk => by
    unfold roleNew at hk
    repeat' split at hk
    all_goals first | omega | exact absurd rfl hk
  have HT := hide hT; have HC1 := hide hc1; have HN := hide hnew; clear hT hc1 hnew
  generalize w.heap.size + 3 = tb at HT ⊢
  generalize (⟨w.heap.size, w.heap.size + 1, w.heap.size + 2, fun _ => ⟨0, 0, none, 0⟩, fun _ => 0⟩ : TL) = L0 at HT
  generalize roleNew w.heap.size = ρ0 at HT HN
  go_wp2_with fail
  refine (awake_calls w1).mono ?_
  rintro e w2 ⟨rfl, hc2⟩
  have HT2 := hide (HT.out.chg0 hc2); have HC2 := hide (HC1.out.trans hc2)
  clear hc2 HT HC1
  go_wp2_with fail
  refine (aw_c1 HT2.out).mono ?_
  rintro e w3 ⟨rfl, L3, ρ3, hT3, hO3⟩
  have HT3 := hide hT3; have HC3 := hide (HC2.out.trans' hO3.chg (fun k hk => .inr (HN.out k hk))); have HN3 := hide (fun k hk => (hO3.own k hk).elim (HN.out k) (fun h => Nat.le_trans HC2.out.size h))
  clear hT3 hO3 HT2 HC2 HN
  go_wp2_with fail
  refine (aw_c2 HT3.out).mono ?_
  rintro e w4 ⟨rfl, L4, ρ4, hT4, hO4⟩
  have HT4 := hide hT4; have HC4 := hide (HC3.out.trans' hO4.chg (fun k hk => .inr (HN3.out k hk))); have HN4 := hide (fun k hk => (hO4.own k hk).elim (HN3.out k) (fun h => Nat.le_trans HC3.out.size h))
  clear hT4 hO4 HT3 HC3 HN3
  go_wp2_with fail
  refine (kt_c3 HT4.out).mono ?_
  rintro e w5 ⟨rfl, L5, ρ5, hT5, hO5⟩
  have HT5 := hide hT5; have HC5 := hide (HC4.out.trans' hO5.chg (fun k hk => .inr (HN4.out k hk))); have HN5 := hide (fun k hk => (hO5.own k hk).elim (HN4.out k) (fun h => Nat.le_trans HC4.out.size h))
  clear hT5 hO5 HT4 HC4 HN4
  go_wp2_with fail
  refine (kt_c4 HT5.out).mono ?_
  rintro e w6 ⟨rfl, L6, ρ6, hT6, hO6⟩
  have HT6 := hide hT6; have HC6 := hide (HC5.out.trans' hO6.chg (fun k hk => .inr (HN5.out k hk))); have HN6 := hide (fun k hk => (hO6.own k hk).elim (HN5.out k) (fun h => Nat.le_trans HC5.out.size h))
  clear hT6 hO6 HT5 HC5 HN5
  go_wp2_with fail
  refine (queue_calls HT6.out sA (fun p hp => by rw [kt4_pl] at hp; cases hp; simp [awD])).mono ?_
  rintro e w7 ⟨v, rfl, hr7, hc7⟩
  have hqe : queueOf kt4 sA = [1, 3] := by simp [queueOf, kt4_pl, awD]
  rw [hqe] at hr7
  have HT7 := hide (HT6.out.chg0 hc7); have HC7 := hide (HC6.out.trans hc7)
  have hra := (hr7.mono HC6.out.size).new (Chg.alloc NoB w7 (.cells #[.int .u64 1, .int .u64 3] 29))
  have hrb : Rw w (w7.alloc (.cells #[.int .u64 1, .int .u64 3] 29)) ρ6 _ [1, 3] := lit_row [1, 3] (by simp) HC7.out.size (HT7.out.fresh (Nat.le_refl _))
  obtain ⟨qa, qc, rfl, hqr⟩ := hra.form
  obtain ⟨_, _, hv, hbr⟩ := hrb.form
  simp only [List.length_cons, List.length_nil, Value.slice.injEq, true_and] at hv
  obtain ⟨rfl, rfl⟩ := hv
  have HNB := hide (numbers_calls hqr hbr (by simp) true (by simp))
  clear hc7 hqe hr7 hra hrb hqr hbr HT6 HC6
  go_wp2_with fail
  refine HNB.out.mono ?_
  rintro e w8 ⟨rfl, hc8⟩
  have HT8 := hide ((HT7.out.chg0 (Chg.alloc _ _ _)).chg0 hc8); have HC8 := hide ((HC7.out.trans (Chg.alloc _ _ _)).trans hc8)
  clear hc8 HNB HT7 HC7
  go_wp2_with fail
  refine (kt_free HT8.out).mono ?_
  rintro e w9 ⟨v9, m9, L9, ρ9, rfl, hr9, hT9, hO9, hp9, hf9⟩
  have HT9 := hide hT9; have HC9 := hide (HC8.out.trans' hO9.chg (fun k hk => .inr (HN6.out k hk))); have HP9 := hide hp9; have HF9 := hide hf9
  have hra := (hr9.mono HC8.out.size).new (Chg.alloc NoB w9 (.cells #[.int .u64 1] 29))
  have hrb : Rw w (w9.alloc (.cells #[.int .u64 1] 29)) ρ9 _ [1] := lit_row [1] (by simp) HC9.out.size (HT9.out.fresh (Nat.le_refl _))
  obtain ⟨qa, qc, rfl, hqr⟩ := hra.form
  obtain ⟨_, _, hv, hbr⟩ := hrb.form
  simp only [List.length_cons, List.length_nil, Value.slice.injEq, true_and] at hv
  obtain ⟨rfl, rfl⟩ := hv
  have HNB := hide (numbers_calls hqr hbr (by simp) true (by simp))
  clear hT9 hO9 hr9 hp9 hf9 hra hrb hqr hbr HT8 HC8 HN6
  go_wp2_with fail
  refine HNB.out.mono ?_
  rintro e w10 ⟨rfl, hc10⟩
  have HTA := hide ((HT9.out.chg0 (Chg.alloc _ _ _)).chg0 hc10); have HCA := hide ((HC9.out.trans (Chg.alloc _ _ _)).trans hc10)
  clear hc10 HNB HT9 HC9
  obtain ⟨p9, hp9, hp4⟩ := HP9.out
  obtain ⟨f9, hf9, hfs9⟩ := HF9.out
  have HHELD := hide (held_one (w := w10) HTA.out 1 sA hf9 hfs9 hp9 hp4 (by decide))
  clear hp9 hp4 hf9 hfs9
  go_wp2_with fail
  refine HHELD.out.mono ?_
  rintro e w11 ⟨g1, rfl, -, -, hc11⟩
  have HTB := hide (HTA.out.chg0 hc11); have HCB := hide (HCA.out.trans hc11)
  clear hc11 HHELD HTA HCA
  obtain ⟨p9, hp9, hp4⟩ := HP9.out
  obtain ⟨f9, hf9, hfs9⟩ := HF9.out
  have HHELD := hide (held_one (w := w11) HTB.out 1 sA hf9 hfs9 hp9 hp4 (by decide))
  clear hp9 hp4 hf9 hfs9
  go_wp2_with fail
  refine HHELD.out.mono ?_
  rintro e w12 ⟨g2, rfl, k1, k2, hc12⟩
  have HTC := hide (HTB.out.chg0 hc12); have HCC := hide (HCB.out.trans hc12)
  clear hc12 HHELD HTB HCB
  obtain ⟨p9, hp9, hp4⟩ := HP9.out
  obtain ⟨f9, hf9, hfs9⟩ := HF9.out
  have HHELD := hide (held_one (w := w12) HTC.out 1 sA hf9 hfs9 hp9 hp4 (by decide))
  clear hp9 hp4 hf9 hfs9
  go_wp2_with fail
  refine HHELD.out.mono ?_
  rintro e w13 ⟨g3, rfl, k3, k4, hc13⟩
  have HCD := hide (HCC.out.trans hc13)
  have k5 : w13.cell? ⟨g3, 0, none⟩ = some (.string ⟨#[97]⟩) := k3
  clear hc13 HHELD HTC HCC HP9 HF9 k1 k2 k3
  go_wp2_with fail
  refine (new_tab w13).mono ?_
  rintro e w14 ⟨rfl, hT, hc14⟩
  have hnew : ∀ k, roleNew w13.heap.size k ≠ .none → w.heap.size ≤ k := fun k hk => by
    have := HCD.out.size
    unfold roleNew at hk
    repeat' split at hk
    all_goals first | omega | exact absurd rfl hk
  have HT := hide hT; have HC1 := hide (HCD.out.trans hc14); have HN := hide hnew; clear hT hc14 hnew HCD k4 k5
  generalize w13.heap.size + 3 = ub at HT ⊢
  generalize (⟨w13.heap.size, w13.heap.size + 1, w13.heap.size + 2, fun _ => ⟨0, 0, none, 0⟩, fun _ => 0⟩ : TL) = L0 at HT
  generalize roleNew w13.heap.size = ρ0 at HT HN
  go_wp2_with fail
  refine (ku_c1 HT.out).mono ?_
  rintro e w15 ⟨rfl, L3, ρ3, hT3, hO3⟩
  have HT3 := hide hT3; have HC3 := hide (HC1.out.trans' hO3.chg (fun k hk => .inr (HN.out k hk))); have HN3 := hide (fun k hk => (hO3.own k hk).elim (HN.out k) (fun h => Nat.le_trans HC1.out.size h))
  clear hT3 hO3 HT HC1 HN
  go_wp2_with fail
  refine (ku_c2 HT3.out).mono ?_
  rintro e w16 ⟨rfl, L4, ρ4, hT4, hO4⟩
  have HT4 := hide hT4; have HC4 := hide (HC3.out.trans' hO4.chg (fun k hk => .inr (HN3.out k hk))); have HN4 := hide (fun k hk => (hO4.own k hk).elim (HN3.out k) (fun h => Nat.le_trans HC3.out.size h))
  clear hT4 hO4 HT3 HC3 HN3
  go_wp2_with fail
  refine (ku_c3 HT4.out).mono ?_
  rintro e w17 ⟨rfl, L5, ρ5, hT5, hO5⟩
  have HT5 := hide hT5; have HC5 := hide (HC4.out.trans' hO5.chg (fun k hk => .inr (HN4.out k hk))); have HN5 := hide (fun k hk => (hO5.own k hk).elim (HN4.out k) (fun h => Nat.le_trans HC4.out.size h))
  clear hT5 hO5 HT4 HC4 HN4
  go_wp2_with fail
  refine (victim_calls ku3_known HT5.out 2).mono ?_
  rintro e w18 ⟨hc18, ⟨-, rfl⟩ | ⟨hr, -⟩⟩
  · have HT6 := hide (HT5.out.chg0 hc18); have HC6 := hide (HC5.out.trans hc18)
    clear hc18 HT5 HC5
    go_wp2_with fail
    refine (ku_c4 HT6.out).mono ?_
    rintro e w19 ⟨rfl, L7, ρ7, hT7, hO7⟩
    have HT7 := hide hT7; have HC7 := hide (HC6.out.trans' hO7.chg (fun k hk => .inr (HN5.out k hk)))
    clear hT7 hO7 HT6 HC6 HN5
    go_wp2_with fail
    refine (victim_calls ku4_known HT7.out 1).mono ?_
    rintro e w20 ⟨hc20, ⟨hno, -⟩ | ⟨-, v, hv, rfl⟩⟩
    · exact absurd ku4_ring hno
    · obtain rfl := ku4_vict hv
      have HC8 := hide (HC7.out.trans hc20)
      clear hc20 HT7 HC7 hv
      go_wp2_with fail
      refine (join_calls 2 3 _).mono ?_
      rintro e w21 ⟨rfl, rfl⟩
      have hj : joinI 2 3 = 4 := by decide
      rw [hj]
      clear hj
      go_wp2_with fail
      refine (together_calls 3 2 _).mono ?_
      have ht : togB 3 2 = false := by decide
      rw [ht]
      rintro e w22 ⟨rfl, hc22⟩
      have HC9 := hide (HC8.out.trans hc22)
      clear ht hc22
      go_wp2_with fail
      go_ret
      exact ⟨rfl, HC9.out⟩
  · exact absurd hr ku3_ring
end Go.Proofs.Ytjnbbmchmkiodaa
