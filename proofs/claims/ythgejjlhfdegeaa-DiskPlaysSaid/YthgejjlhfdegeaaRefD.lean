/- The reference's device: settled. -/
import Derived.Test.YthgejjlhfdegeaaRefC
namespace Go.Proofs.Ythgejjlhfdegeaa
open Go.RowKit Go.MapKept

theorem DM.Ok.page_len {m : DM} (h : m.Ok) {n : Nat} (hn : n < m.base.length) : (m.page n).length = 512 := by
  unfold DM.page
  cases hl : lastOf m.waiting n with
  | some b => exact (h.wait _ (lastOf_mem hl)).2
  | none =>
    have : m.base.getD n [] = m.base[n] := by simp [hn]
    simp only [Option.getD_none, this]
    exact h.page _ (List.getElem_mem hn)

def RL.settled (L : RL) (ba : Option Addr) (bc : Nat) (pv : List Value) : RL := { L with ba := ba, bc := bc, pv := pv, wa := none, wc := 0, wv := [] }
def DM.settledM (m : DM) : DM := { m with base := m.settled, waiting := [] }
theorem DM.settled_length (m : DM) : m.settled.length = m.base.length := by simp [DM.settled]
theorem rcells_settled (m : DM) (L : RL) (ba : Option Addr) (bc : Nat) (pv : List Value) : rcells m.settledM (L.settled ba bc pv) = ((rcells m L).setIfInBounds 0 (.slice ba m.base.length bc)).setIfInBounds 1 (.slice none 0 0) := by
  simp [rcells, DM.settledM, RL.settled, DM.settled_length]
theorem RefAt.settled {w w' : World} {G : Nat → Prop} {m : DM} {L : RL} (h : RefAt w G m L) (hc : Chg NoB w w') {ba : Option Addr} {bc : Nat} {pv : List Value} (hr : NewRow m.page w w' m.base.length ba bc pv) : RefAt w' (fun k => G k ∨ w.heap.size ≤ k) m.settledM (L.settled ba bc pv) := by
  have h' := (h.chg0 hc).mono (G' := fun k => G k ∨ w.heap.size ≤ k) (fun k hk => .inl hk)
  have e : m.settledM.base.length = m.base.length := m.settled_length
  exact {
    base := by rw [e]; exact CR.own hr.row
    page := fun i p hp => by
      have hi : i < m.base.length := by rw [← e]; exact (List.getElem?_eq_some_iff.1 hp).1
      obtain ⟨v, hv, hs⟩ := hr.page i hi
      have : p = m.page i := by
        have : m.settled[i]? = some p := hp
        simp only [DM.settled, List.getElem?_map, List.getElem?_range hi, Option.map_some, Option.some.injEq] at this
        exact this.symm
      rw [this]
      exact ⟨v, hv, hs.mono fun j hj => .inr (by have := hj.1; omega)⟩
    baG := fun b hb => .inr (by have := hr.far b hb; omega)
    wait := CR.nil' _ _
    wsv := fun i r hi => by simp [DM.settledM] at hi
    wvl := rfl
    waG := fun b hb _ => by cases hb
    log := h'.log, logG := h'.logG, mark := h'.mark, markG := h'.markG, tail := h'.tail, tailG := h'.tailG, torn := h'.torn }

/-- Settled. -/
def SetR (w : World) (m : DM) (L : RL) (e : Ending) (w' : World) : Prop :=
  ∃ ba bc pv, e = .returned (.agg (rcells m.settledM (L.settled ba bc pv))) ∧ NewRow m.page w w' m.base.length ba bc pv ∧ Chg NoB w w'
theorem rcells_size (m : DM) (L : RL) : (rcells m L).size = 13 := rfl
theorem rcells_one (m : DM) (L : RL) : (rcells m L).all (·.oneCell') = true := by simp [rcells, Value.oneCell']

set_option maxHeartbeats 2000000 in
set_option maxRecDepth 100000 in
theorem settle_calls {w : World} {G : Nat → Prop} {m : DM} {L : RL} (h : RefAt w G m L) (hok : m.Ok) (hwl : m.waiting.length ≤ 4611686018427387904) : Calls Try.prog 43 #[.agg (rcells m L)] w (SetR w m L) := by
  obtain ⟨ip, hi, hi0, hi1, hi2⟩ := info_parts infoPg
  have hbl : m.base.length ≤ 65536 := hok.pages.2
  have HP := hide (fun i (hi : i < m.base.length) => hok.page_len hi)
  have HC := hide (fun w1 (hc : Chg NoB w w1) i (hi : i < m.base.length) => page_calls (h.chg0 hc) i hi hwl hok.page (fun r hr => (hok.wait r hr).2))
  have HRS := hide (rcells_settled m L)
  have HZ := hide (rcells_size m L)
  have HO := hide (rcells_one m L)
  have HB0 : Hid ((rcells m L)[0]? = some (.slice L.ba m.base.length L.bc)) := rfl
  have HB1 : Hid ((rcells m L)[1]? = some (.slice L.wa m.waiting.length L.wc)) := rfl
  clear h hok
  generalize rcells m L = rc at HC HRS HZ HO HB0 HB1 ⊢
  generalize hbn : m.base.length = bl at hbl HP HC HRS HB0
  have HBN := hide hbn; clear hbn
  go_enter Try.func43, Try.ntmps43
  go_wp2_with fail
  go_loopw [3, 4] (fun bv v wr => ∃ (k : Nat) (ba : Option Addr) (bc : Nat) (pv : List Value), k ≤ bl ∧ v = .int .i64 k ∧ bv = .slice ba k bc ∧ wr.heap[w.heap.size]? = some (.cells rc 52 (0, 0)) ∧ (∃ cs, wr.heap[w.heap.size + 1]? = some (.cells cs 52 (0, 0)) ∧ cs.size = 13) ∧ NewRow m.page w wr k ba bc pv ∧ Chg NoB w wr) (fun _ v _ => bl - (intOf v).toNat)
  case atStart => exact ⟨0, none, 0, [], by omega, rfl, rfl, alloc_blk (heap_alloc_new w _) _, ⟨_, heap_alloc_new' _ (by simp) _, rfl⟩, ⟨World.ownsRow_nil _ 0 _ 1, (fun b h => by cases h), (fun i h => absurd h (Nat.not_lt_zero _))⟩, (Chg.alloc _ _ _).trans (Chg.alloc _ _ _)⟩
  case round =>
    obtain ⟨k, ba, bc, pv, hk, rfl, rfl, hB, ⟨cs, hr1, hr2⟩, hrow, hch⟩ := hrel
    have c0 : wr.cell? ⟨w.heap.size, 0, none⟩ = some (.slice L.ba bl L.bc) := by rw [cell_of_row wr _ _ _ _ _ hB]; exact HB0.out
    have HB := hide hB; have HR1 := hide hr1; have HR2 := hide hr2; clear hB hr1 hr2
    by_cases hlt : k < bl
    · have hlt' : (k : Int) < (bl : Int) := by omega
      go_wp2_with (first | (refine wpList_ldR rfl (.tmp 1) rfl w.heap.size rfl _ HB.out HZ.out ?_))
      refine (HC.out wr hch k hlt).mono ?_
      rintro e w1 ⟨a', c', rfl, h2, h3, h4⟩
      have hpk := HP.out k hlt
      have hsv : SV w1 (fun j => wr.heap.size ≤ j) (.slice a' (m.page k).length c') (m.page k) := ⟨a', c', rfl, BS.own h2, h4⟩
      have HSV := hide hsv
      have HH2 := hide h2
      clear hpk h2 hsv
      generalize hpl : (m.page k).length = pl at HSV HH2 ⊢
      clear hpl
      have hrow1 := hrow
      have hown : ∀ w', Chg NoB wr w' → w'.ownsRow 0 28 1 (.slice ba k bc) k pv := fun w' hc => ownsRow_chg hrow.row hc (fun _ _ f => f)
      have HOWN := hide hown; have HROW := hide hrow; clear hown hrow hrow1
      go_wp2_with (first | (at_builtin; refine wpList_app_own rfl (.tmp 12) (.tmp 16) 47 rfl 28 ip (.slice none 0 0) 1 24 Try.underlying47 hi hi0 hi1 hi2 rfl (by decide) ba k bc pv rfl (HOWN.out _ (h3.trans (Chg.alloc _ _ _))) (some ⟨w1.heap.size, 0, none⟩) 1 1 [.slice a' pl c'] rfl (fun e => by cases e) rfl (new_cells rfl [.slice a' pl c'] _) (by intro u hu; simp at hu; subst hu; rfl) (by unfold maxLen; omega) (by omega) (Hid.out ?_)))
      refine hide (fun a3 c3 w3 hr3 hc3 hat3 => ?_)
      try go_frame
      have hsz1 : w.heap.size + 2 ≤ wr.heap.size := heap_lt HR1.out
      have hc13 : Chg NoB wr (w1.alloc (.cells #[.slice a' pl c'] 28)) := h3.trans (Chg.alloc _ _ _)
      have hat4 : ∀ j, blkOf a3 j → blkOf ba j ∨ (w1.alloc (.cells #[.slice a' pl c'] 28)).heap.size ≤ j := by
        rintro j ⟨b, hb, rfl⟩
        exact (hat3 b hb).imp id (fun h => by simpa using h)
      have hrow4 := HROW.out.snoc hc13 hsz1 (fun i hi => by rw [HP.out i (by omega)]; omega) (HSV.out.chg (Chg.alloc NoB _ _) (fun _ _ f => f)) hr3 hc3 hat4
      have hfar : ∀ j, (∃ b, ba = some b ∧ b.block = j) → w.heap.size + 2 ≤ j := by rintro j ⟨b, hb, rfl⟩; exact HROW.out.far b hb
      have hB3 := hc3.blk (hc13.blk HB.out (fun f => f)) (fun e => by have := hfar _ e; omega)
      have hR3 := hc3.blk (hc13.blk HR1.out (fun f => f)) (fun e => by have := hfar _ e; omega)
      have hch3 : Chg NoB w w3 := (hch.trans hc13).trans' hc3 (fun i hi => .inr (by have := hfar _ hi; omega))
      have HB3 := hide hB3; have HR3 := hide hR3; have HROW4 := hide hrow4
      clear hB3 hR3 hrow4 hr3 hc3 hat3 hat4 hfar
      go_wp2_with fail
      go_roundw
      case rel => exact ⟨k + 1, a3, c3, pv ++ [.slice a' pl c'], by omega, by go_num, rfl, HB3.out, ⟨cs, HR3.out, HR2.out⟩, HROW4.out, hch3⟩
      case measure => simp [intOf]; omega
    · obtain rfl : k = bl := by omega
      clear hk hlt
      have c1 : wr.cell? ⟨w.heap.size, 1, none⟩ = some (.slice L.wa m.waiting.length L.wc) := by rw [cell_of_row wr _ _ _ _ _ HB.out]; exact HB1.out
      have f0 : wr.frozen? ⟨w.heap.size, 0, none⟩ = false := unfrozen HB.out 0
      have f1 : wr.frozen? ⟨w.heap.size, 1, none⟩ = false := unfrozen HB.out 1
      have hb2 := setCell_blk (i := 1) (setCell_blk (i := 0) HB.out (.slice ba k bc)) (.slice none 0 0)
      have hr2 := setCell_blk_other (b := w.heap.size) (i := 1) (setCell_blk_other (b := w.heap.size) (i := 0) HR1.out (by omega) (.slice ba k bc)) (by omega) (.slice none 0 0)
      have HB2 := hide hb2; have HR3 := hide hr2; clear hb2 hr2
      have hcA : Chg (fun j => j = w.heap.size) wr ((wr.setCell ⟨w.heap.size, 0, none⟩ (.slice ba k bc)).setCell ⟨w.heap.size, 1, none⟩ (.slice none 0 0)) := (Chg.cell1 _ _ _ _).trans (Chg.cell1 _ _ _ _)
      have hz2 : ((rc.setIfInBounds 0 (.slice ba k bc)).setIfInBounds 1 (.slice none 0 0)).size = 13 := by simpa using HZ.out
      have HZ2 := hide hz2; clear hz2
      have ho2 : ((rc.setIfInBounds 0 (.slice ba k bc)).setIfInBounds 1 (.slice none 0 0)).all (·.oneCell') = true := by rw [← HRS.out ba bc pv]; exact rcells_one _ _
      have HO2 := hide ho2; clear ho2
      go_wp2_with (first | (refine wpList_ldR rfl (.tmp 1) rfl w.heap.size rfl _ HB2.out HZ2.out ?_) | (refine wpList_stR rfl (.tmp 2) (.tmp 21) rfl (w.heap.size + 1) rfl cs _ rfl HR3.out HR2.out HZ2.out HO2.out ?_))
      rw [← HRS.out ba bc pv]
      have hl1 := setRow_heap _ _ _ (rcells m.settledM (L.settled ba bc pv)) _ _ HR3.out
      have hc1 := hcA.mono (G := fun j => j = w.heap.size ∨ j = w.heap.size + 1) (fun i hi => .inl hi)
      have hc2 := hc1.trans ((Chg.setRow1 _ (w.heap.size + 1) (rcells m.settledM (L.settled ba bc pv))).mono (fun i hi => .inr hi))
      exact ⟨rfl, _, results_cell_row (P := Try.prog) (ty := 52) rfl _ _ (w.heap.size + 1) _ _ _ _ rfl hl1 Try.underlying52 rfl infoRf, ba, bc, pv, rfl, by rw [HBN.out]; exact hrow.chg hc2 (fun j hj => by have : j = w.heap.size ∨ j = w.heap.size + 1 := hj; omega), hch.trans' hc2 (fun i hi => .inr (by omega))⟩
end Go.Proofs.Ythgejjlhfdegeaa
