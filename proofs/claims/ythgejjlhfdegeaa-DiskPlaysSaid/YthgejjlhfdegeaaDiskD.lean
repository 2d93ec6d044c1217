/- The device's methods, walked: Cut, Read, Write. -/
import Derived.Test.YthgejjlhfdegeaaDiskC
import Derived.Deep.RegionHeld3
namespace Go.Proofs.Ythgejjlhfdegeaa
open Go.RowKit Go.MapKept

set_option maxHeartbeats 400000
section
variable {w : World} {sb : Nat} {m : DM} {L : DL} {F C : Nat → Prop}

theorem DiskL.marked (h : DiskL w sb m L F C) (l : List UInt8) (hl : l.length ≤ 64) {g : Nat} (hg : w.heap.size = g) :
    DiskL ((w.alloc (.cells (bcells l).toArray 5)).setCell ⟨sb, 6, none⟩ (.slice (some ⟨g, 0, none⟩) l.length l.length)) sb { m with mark := l } { L with ma := some ⟨g, 0, none⟩, mc := l.length } F
      (fun k => C k ∨ (w.heap.size ≤ k ∧ k < (w.alloc (.cells (bcells l).toArray 5)).heap.size)) := by
  subst hg
  have hA := h.widen (Chg.alloc _ _ (.cells (bcells l).toArray 5))
  have hbk : (w.alloc (.cells (bcells l).toArray 5)).heap[w.heap.size]? = some (.cells (bcells l).toArray 5 (0, 0)) := heap_alloc_new w _
  have hne : w.heap.size ≠ sb := by have := heap_lt h.blk; omega
  have hok : DM.Ok { m with mark := l } := by
    obtain ⟨a1, a2, a3, a4, a5, a6, a7, a8, a9, a10, a11, a12⟩ := h.ok
    exact ⟨a1, a2, a3, a4, a5, a6, hl, a8, a9, a10, a11, a12⟩
  refine hA.struct (L' := { L with ma := some ⟨w.heap.size, 0, none⟩, mc := l.length }) (Chg.cell1 _ _ _ _) (setCell_blk hA.blk _) hok (fun hm => { hm with mark := ?_, markC := ?_ }) rfl rfl rfl rfl
  · exact BS.block (setCell_blk_other hbk hne _) rfl (Nat.le_refl _) (by simp [List.take_of_length_le, bcells_length])
  · rintro b hb'
    cases hb'
    exact .inr ⟨Nat.le_refl _, by simp⟩

theorem cut_calls (h : DiskL w sb m L F C) (n : Int) (ba : Option Addr) (bn bc : Nat) (l : List UInt8) (hb : BS w ba bn bc l) (hbF : ∀ b, ba = some b → 0 < bn → ¬ F b.block) :
    Calls Try.prog 27 #[.pointer (some ⟨sb, 0, none⟩), .int .i64 n, .slice ba bn bc] w (DRes w sb F C (m.cut n l)) := by
  have c9 := h.cell 9 (v := .bool m.dead) rfl
  have c5 := h.cell 5 (v := .int .i64 m.certain) rfl
  have hroom := h.ok.room
  have hlog := h.ok.log
  have hcer := h.ok.certain
  have hl := hb.len
  cases hd : m.dead
  · rw [hd] at c9
    by_cases hn : n < 0 ∨ (m.certain : Int) < n ∨ 64 < l.length
    · have e1 : m.cut n l = (m, 1) := by simp only [DM.cut, hd]; rw [if_neg (by simp), if_pos hn]
      rw [e1]; clear e1
      have HD := hide hd; clear hd
      by_cases h0 : n < 0
      · have HN := hide hn; clear hn
        have HL := hide hl; clear hl
        go_enter Try.func27, Try.ntmps27
        go_wp2_with fail
        go_ret
        exact DRes.same ‹_›
      · by_cases h1 : (m.certain : Int) < n
        · have HN := hide hn; clear hn
          have HL := hide hl; clear hl
          have h0' : decide (n < 0) = false := by simpa using h0
          go_enter Try.func27, Try.ntmps27
          go_wp2_with fail
          go_ret
          exact DRes.same ‹_›
        · have h2 : (64 : Int) < (bn : Int) := by omega
          have HN := hide hn; clear hn
          have HL := hide hl; clear hl
          have h0' : decide (n < 0) = false := by simpa using h0
          have h1' : decide ((m.certain : Int) < n) = false := by simpa using h1
          go_enter Try.func27, Try.ntmps27
          go_wp2_with fail
          go_ret
          exact DRes.same ‹_›
    · have h0 : 0 ≤ n := by omega
      have hq : n ≤ (m.certain : Int) := by omega
      have hq2 : (bn : Int) ≤ 64 := by omega
      have h0' : decide (n < 0) = false := by simpa using h0
      have h1' : decide ((m.certain : Int) < n) = false := by simpa using hq
      have h2' : decide ((64 : Int) < (bn : Int)) = false := by simpa using hq2
      cases hk : m.count.2
      · have e1 : m.cut n l = (m.count.1, 9) := by simp only [DM.cut, hd, hk]; rw [if_neg (by simp), if_neg hn]; simp
        rw [e1]; clear e1
        have HK := hide hk; clear hk
        have HD := hide hd; clear hd
        have HN := hide hn; clear hn
        have HL := hide hl; clear hl
        go_enter Try.func27, Try.ntmps27
        go_wp2_with (go_at_call 39; refine (counts_no h HK.out).mono ?_; rintro e w1 ⟨rfl, h1, hc1⟩)
        go_ret
        exact DRes.mk ‹_› (h.chgF ‹_› fun _ h => h)
      · have e1 : m.cut n l = ({ m.count.1 with log := m.count.1.log.drop n.toNat, certain := m.count.1.certain - n.toNat, mark := l }, 0) := by simp only [DM.cut, hd, hk]; rw [if_neg (by simp), if_neg hn]; simp
        rw [e1]; clear e1
        have HK := hide hk; clear hk
        have HD := hide hd; clear hd
        have HN := hide hn; clear hn
        have HL := hide hl; clear hl
        have hqc : n ≤ (m.count.1.certain : Int) := by rw [(DM.count_same m).2.2.2.2.1]; exact hq
        have hcl : m.count.1.certain ≤ m.count.1.log.length := by rw [(DM.count_same m).2.2.2.2.1, (DM.count_same m).2.2.2.1]; exact hcer
        have hll : m.count.1.log.length ≤ 16777216 := by rw [(DM.count_same m).2.2.2.1]; omega
        have h1c : n ≤ (m.count.1.log.length : Int) := by omega
        have hsz64 : (Try.prog.info? (Try.prog.elem 28)).map (·.size) = some 1 := by kernel_rfl
        go_enter Try.func27, Try.ntmps27
        go_wp2_with (first | (go_at_call 39; refine (counts_ok h HK.out).mono ?_; rintro e w1 ⟨rfl, h1, hc1⟩; have d4 := h1.cell 4 (v := .slice L.la m.count.1.log.length L.lc) rfl; have d5 := h1.cell 5 (v := .int .i64 m.count.1.certain) rfl; have d6 := h1.cell 6 (v := .slice L.ma m.count.1.mark.length L.mc) rfl; have f4 := h1.free 4; have f5 := h1.free 5; have f6 := h1.free 6; have hsz := heap_lt h1.blk; have hB1 := BS.own h1.mem.log) | (refine wpList_sub_lo rfl (.tmp 36) (.tmp 37) 28 rfl Try.underlying28 hsz64 L.la m.count.1.log.length L.lc m.count.1.log rfl hB1 .i64 n rfl h0 h1c ?_; intro la' hB' hat'))
        have hbn : ∀ w', Chg (fun k => k = sb) w1 w' → BS w' ba bn bc l := fun w' hc => (hb.chgw hc1 (fun b hb hp e => hbF b hb hp ((h.foot _).2 (.inl e)))).chgw hc (fun b hb hp e => hbF b hb hp ((h.foot _).2 (.inl e)))
        have HBN := hide hbn; clear hbn
        refine (clone_calls _ _ _ _ _ hB' (by omega)).mono ?_
        rintro e w2 ⟨rfl, rfl⟩
        go_wp2_with fail
        refine (clone_calls _ _ _ _ _ (HBN.out _ ?_) (by omega)).mono ?_
        · exact ((Chg.cell1 _ _ _ _).trans (Chg.cell1 _ _ _ _)).trans (Chg.alloc _ _ _)
        rintro e w3 ⟨rfl, rfl⟩
        go_wp2_with fail
        go_ret
        rw [← World.setCell_alloc_past _ _ _ _ (by simpa using hsz), ← World.setCell_alloc_past _ _ _ _ (by simp; omega)]
        have hlenD : (m.count.1.log.drop n.toNat).length = m.count.1.log.length - n.toNat := by rw [List.length_drop]
        have hcs : Chg (fun k => k = sb) w1 (((w1.setCell ⟨sb, 4, none⟩ (.slice (some ⟨w1.heap.size, 0, none⟩) (m.count.1.log.length - n.toNat) (m.count.1.log.length - n.toNat))).setCell ⟨sb, 5, none⟩ (.int .i64 ((m.count.1.certain : Int) - n))).alloc (.cells (bcells (m.count.1.log.drop n.toNat)).toArray 5)) :=
          ((Chg.cell1 _ _ _ _).trans (Chg.cell1 _ _ _ _)).trans (Chg.alloc _ _ _)
        have hb2 := alloc_blk (setCell_blk (i := 5) (setCell_blk (i := 4) h1.blk (.slice (some ⟨w1.heap.size, 0, none⟩) (m.count.1.log.length - n.toNat) (m.count.1.log.length - n.toNat))) (.int .i64 ((m.count.1.certain : Int) - n))) (.cells (bcells (m.count.1.log.drop n.toNat)).toArray 5)
        have hok2 : DM.Ok { m.count.1 with log := m.count.1.log.drop n.toNat, certain := m.count.1.certain - n.toNat } := by
          obtain ⟨a1, a2, a3, a4, a5, a6, a7, a8, a9, a10, a11, a12⟩ := h1.ok
          exact ⟨a1, a2, a3, a4, by simp only [hlenD]; omega, by simp only [hlenD]; omega, a7, a8, a9, a10, by simp only [hlenD]; omega, a12⟩
        have hnat : (m.count.1.certain : Int) - n = ((m.count.1.certain - n.toNat : Nat) : Int) := by omega
        have hdc : (((dcells m.count.1 L).setIfInBounds 4 (.slice (some ⟨w1.heap.size, 0, none⟩) (m.count.1.log.length - n.toNat) (m.count.1.log.length - n.toNat))).setIfInBounds 5 (.int .i64 ((m.count.1.certain : Int) - n))) = dcells { m.count.1 with log := m.count.1.log.drop n.toNat, certain := m.count.1.certain - n.toNat } { L with la := some ⟨w1.heap.size, 0, none⟩, lc := (m.count.1.log.drop n.toNat).length } := by
          rw [hnat]; simp [dcells]
        rw [hdc] at hb2
        obtain ⟨F', hD, hF'⟩ := h1.newlog (m' := { m.count.1 with log := m.count.1.log.drop n.toNat, certain := m.count.1.certain - n.toNat }) (g := w1.heap.size) (Nat.le_refl _) hcs (heap_alloc_new' _ (by simp) _) rfl hb2 hok2 rfl rfl rfl rfl rfl
        have hM := hD.marked l (by have := HL.out; omega) (g := w1.heap.size + 1) (by simp)
        have hbl := HL.out
        subst hbl
        refine ⟨rfl, F', _, ⟨_, hM⟩, ⟨?_, fun k hk => (hF' k hk).imp id (fun g => Nat.le_trans hc1.size g), ?_⟩⟩
        · refine ((h.chgF hc1 fun _ h => h).trans (h1.chgF hcs fun _ h => h)).trans ((Chg.alloc _ _ _).trans (Chg.setCell _ ?_ _))
          exact (h.foot sb).2 (.inl rfl)
        · rintro k (hk | ⟨hk, _⟩)
          · exact .inl hk
          · refine .inr (Nat.le_trans hc1.size (Nat.le_trans hcs.size hk))
  · rw [hd] at c9
    have e1 : m.cut n l = (m, 9) := by simp [DM.cut, hd]
    rw [e1]; clear e1
    have HD := hide hd; clear hd
    have HL := hide hl; clear hl
    go_enter Try.func27, Try.ntmps27
    go_wp2_with fail
    go_ret
    exact DRes.same h
end
end Go.Proofs.Ythgejjlhfdegeaa
