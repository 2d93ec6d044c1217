/- The device's methods, walked: Append, Cut, Trim. -/
import Derived.Test.YthgejjlhfdegeaaDiskB
namespace Go.Proofs.Ythgejjlhfdegeaa
open Go.RowKit Go.MapKept

set_option maxHeartbeats 400000
section
variable {w : World} {sb : Nat} {m : DM} {L : DL} {F C : Nat → Prop}

theorem append_calls (h : DiskL w sb m L F C) (ba : Option Addr) (n c : Nat) (l : List UInt8) (hb : BS w ba n c l) (hbF : ∀ b, ba = some b → 0 < n → ¬ F b.block) (hmax : n ≤ maxLen) :
    Calls Try.prog 16 #[.pointer (some ⟨sb, 0, none⟩), .slice ba n c] w (DRes w sb F C (m.append l)) := by
  have c9 := h.cell 9 (v := .bool m.dead) rfl
  have c0 := h.cell 0 (v := .int .i64 m.room) rfl
  have c4 := h.cell 4 (v := .slice L.la m.log.length L.lc) rfl
  have hl := hb.len
  have hroom := h.ok.room
  have hlog := h.ok.log
  have hm' : n ≤ 9223372036854775807 := by simpa [maxLen] using hmax
  cases hd : m.dead
  · rw [hd] at c9
    by_cases hn : m.room < m.log.length + n
    · have e1 : m.append l = (m, 7) := by simp only [DM.append, hd]; rw [if_neg (by simp), if_pos (by omega)]
      rw [e1]; clear e1
      have HD := hide hd; clear hd
      have HL := hide hl; clear hl
      have hn' : (m.room : Int) - (m.log.length : Int) < (n : Int) := by omega
      go_enter Try.func16, Try.ntmps16
      go_wp2_with fail
      go_quiet (fail)
      go_wp2_with fail
      go_ret
      exact ⟨rfl, F, C, ⟨L, h.drewN nq⟩, ⟨Chg.drewN _ _ _, fun _ h => .inl h, fun _ h => .inl h⟩⟩
    · have hn' : ¬ (m.room : Int) - (m.log.length : Int) < (n : Int) := by omega
      cases hk : m.count.2
      · have e1 : m.append l = ({ m.count.1 with tail := l }, 9) := by simp only [DM.append, hd, hk]; rw [if_neg (by simp), if_neg (by omega)]; simp
        rw [e1]; clear e1
        have HK := hide hk; clear hk
        have HD := hide hd; clear hd
        have HL := hide hl; clear hl
        have hsame := DM.count_same m
        have HS := hide hsame; clear hsame
        have HA := hide ((DM.count_dead m HD.out).trans (by rw [HK.out]))
        go_enter Try.func16, Try.ntmps16
        go_wp2_with fail
        go_quiet (fail)
        go_wp2_with (first | (go_at_call 39; refine (counts_no (h.drewN nq) HK.out).mono ?_; rintro e w1 ⟨rfl, h1, hc1⟩; have d6 := h1.cell 11 (v := .slice L.ta m.count.1.tail.length L.tc) rfl; have f6 := h1.free 11; have hsz := heap_lt h1.blk; have hb1 := (hb.drewN nq).chgw hc1 (fun b hb hp e => hbF b hb hp ((h.foot _).2 (.inl e)))) | (go_at_call 38; refine (clone_calls _ _ _ _ _ hb1 (by omega)).mono ?_; rintro e w2 ⟨rfl, rfl⟩))
        go_ret
        rw [← World.setCell_alloc_past _ _ _ _ hsz]
        have hA := h1.widen (Chg.alloc _ _ (.cells (bcells l).toArray 5))
        have hc : Chg (fun k => k = sb) (w1.alloc (.cells (bcells l).toArray 5)) ((w1.alloc (.cells (bcells l).toArray 5)).setCell ⟨sb, 11, none⟩ (.slice (some ⟨w1.heap.size, 0, none⟩) n n)) := Chg.cell1 _ _ _ _
        have hbk : (w1.alloc (.cells (bcells l).toArray 5)).heap[w1.heap.size]? = some (.cells (bcells l).toArray 5 (0, 0)) := heap_alloc_new w1 _
        have hne : w1.heap.size ≠ sb := by omega
        have hlen := HL.out
        subst hlen
        refine DRes.mkC (L' := { L with ta := some ⟨w1.heap.size, 0, none⟩, tc := l.length }) (hA.struct hc (setCell_blk hA.blk _) ?_ (fun hm => { hm with tail := ?_, tailC := ?_ }) rfl rfl rfl rfl)
          (h.chgF (((Chg.drewN _ _ nq).trans (hc1.trans (Chg.alloc _ _ _))).trans hc) fun _ h => h) ?_
        · obtain ⟨a1, a2, a3, a4, a5, a6, a7, a8, a9, a10, a11, a12⟩ := h1.ok
          exact ⟨a1, a2, a3, a4, a5, a6, a7, a8, a9, a10, by simp only [HS.out.2.2.2.1, HS.out.1]; omega, fun e => by rw [HA.out] at e; cases e⟩
        · exact BS.block (setCell_blk_other hbk hne _) rfl (Nat.le_refl _) (by simp [List.take_of_length_le, bcells_length])
        · rintro b hb'
          cases hb'
          exact .inr ⟨Nat.le_refl _, by simp⟩
        · rintro k (hk | ⟨hk, _⟩)
          · exact .inl hk
          · exact .inr (Nat.le_trans hc1.size hk)
      · have e1 : m.append l = ({ m.count.1 with log := m.count.1.log ++ l }, 0) := by simp only [DM.append, hd, hk]; rw [if_neg (by simp), if_neg (by omega)]; simp
        rw [e1]; clear e1
        have HK := hide hk; clear hk
        have HD := hide hd; clear hd
        have HL := hide hl; clear hl
        have hlog1 : m.count.1.log.length + n ≤ m.count.1.room := by rw [(DM.count_same m).2.2.2.1, (DM.count_same m).1]; omega
        have hroom1 : m.count.1.room ≤ 16777216 := by rw [(DM.count_same m).1]; omega
        obtain ⟨i0, hi, hz0, hz1, hz2⟩ := info_parts infoU8
        go_enter Try.func16, Try.ntmps16
        go_wp2_with fail
        go_quiet (fail)
        go_wp2_with (first | (go_at_call 39; refine (counts_ok (h.drewN nq) HK.out).mono ?_; rintro e w1 ⟨rfl, h1, hc1⟩; have d6 := h1.cell 4 (v := .slice L.la m.count.1.log.length L.lc) rfl; have f6 := h1.free 4; have hb1 := (hb.drewN nq).chgw hc1 (fun b hb hp e => hbF b hb hp ((h.foot _).2 (.inl e))); have hnil : ba = none → n = 0 ∧ c = 0 := (fun e => ⟨by have := hb1.nil e; have := hb1.cap; omega, hb1.nil e⟩)) | (at_builtin; refine wpList_app_own rfl (.tmp 37) (.tmp 38) 28 rfl 5 i0 (.int .u8 0) 1 1 Try.underlying28 hi hz0 hz1 hz2 rfl (by decide) L.la m.count.1.log.length L.lc _ rfl h1.mem.log ba n c (bcells l) rfl (fun e => hnil e) (by rw [bcells_length, Nat.mul_one]; exact HL.out.symm) hb1.cell (bcells_one l) (by unfold maxLen; omega) (by omega) ?_; intro la' lc' w2 hown hc2 hat; have g6 : w2.cell? ⟨sb, 4, none⟩ = some (.slice L.la m.count.1.log.length L.lc) := (by rw [hc2.cell (p := ⟨sb, 4, none⟩) (heap_lt h1.blk) (fun e => h1.s_l e)]; exact d6); have k6 : w2.frozen? ⟨sb, 4, none⟩ = false := (by rw [hc2.frozen (p := ⟨sb, 4, none⟩) (heap_lt h1.blk) (fun e => h1.s_l e)]; exact f6)))
        go_ret
        have hlen := HL.out
        subst hlen
        have hne : ∀ k, blkOf la' k → k ≠ sb := fun k hk e => (hat k hk).elim (fun g => h1.s_l (e ▸ g)) (fun g => by have := heap_lt h1.blk; omega)
        have hcs : Chg (fun k => k = sb ∨ blkOf L.la k) w1 (w2.setCell ⟨sb, 4, none⟩ (.slice la' (m.count.1.log.length + l.length) lc')) := (hc2.mono fun _ h => .inr h).trans (Chg.setCell _ (.inl rfl) _)
        have hcc := Chg.cell1 w2 sb 4 (.slice la' (m.count.1.log.length + l.length) lc')
        have hrow := ownsRow_chg hown hcc (fun b hb e => hne _ ⟨b, hb, rfl⟩ e)
        have hb2 : (w2.setCell ⟨sb, 4, none⟩ (.slice la' (m.count.1.log.length + l.length) lc')).heap[sb]? = some (.cells (dcells { m.count.1 with log := m.count.1.log ++ l } { L with la := la', lc := lc' }) 66 (0, 0)) := by
          have := setCell_blk (i := 4) (hc2.blk h1.blk (fun e => h1.s_l e)) (.slice la' (m.count.1.log.length + l.length) lc')
          simpa [dcells] using this
        have hok2 : DM.Ok { m.count.1 with log := m.count.1.log ++ l } := by
          obtain ⟨a1, a2, a3, a4, a5, a6, a7, a8, a9, a10, a11, a12⟩ := h1.ok
          have hal := h.ok.alive HD.out
          have ht : m.count.1.tail = [] := (DM.count_same m).2.2.2.2.2.2.2.trans hal.2
          exact ⟨a1, a2, a3, a4, by simpa using hlog1, by simp only [List.length_append]; omega, a7, a8, a9, a10, by simp only [ht, List.length_append, List.length_nil]; exact hlog1, a12⟩
        obtain ⟨F', hD, hF'⟩ := h1.relog (m' := { m.count.1 with log := m.count.1.log ++ l }) (la := la') (lc := lc') hcs hb2 hok2 (by simpa [bcells_append] using hrow) hat rfl rfl rfl rfl rfl
        refine ⟨rfl, F', C, ⟨_, hD⟩, ?_, ?_, fun _ h => .inl h⟩
        · refine ((Chg.drewN _ _ nq).trans ((h.drewN nq).chgF hc1 fun _ h => h)).trans (hcs.mono ?_)
          rintro k (e | e)
          · exact (h.foot k).2 (.inl e)
          · exact (h.foot k).2 (.inr (.inr (.inr (.inr e))))
        · exact fun k hk => (hF' k hk).imp id (fun g => Nat.le_trans hc1.size g)
  · rw [hd] at c9
    have e1 : m.append l = (m, 9) := by simp [DM.append, hd]
    rw [e1]; clear e1
    have HD := hide hd; clear hd
    go_enter Try.func16, Try.ntmps16
    go_wp2_with fail
    go_ret
    exact DRes.same h

/-- A log that lies in a new block. -/
theorem DiskL.newlog {w w2 : World} {m m' : DM} (h : DiskL w sb m L F C) {g : Nat} {l : List UInt8} (hg : w.heap.size ≤ g) (hc : Chg (fun k => k = sb) w w2) (hrow : w2.heap[g]? = some (.cells (bcells l).toArray 5 (0, 0)))
    (hl : m'.log = l) (hb : w2.heap[sb]? = some (.cells (dcells m' { L with la := some ⟨g, 0, none⟩, lc := l.length }) 66 (0, 0))) (hok : m'.Ok)
    (e1 : m'.base = m.base) (e2 : m'.waiting = m.waiting) (e3 : m'.mark = m.mark) (e4 : m'.tail = m.tail) (e5 : m'.torn = m.torn) :
    ∃ F', DiskL w2 sb m' { L with la := some ⟨g, 0, none⟩, lc := l.length } F' C ∧ ∀ k, F' k → F k ∨ w.heap.size ≤ k := by
  subst hl
  have h1 := hok.log
  have h2 := hok.room
  refine h.relog (hc.mono fun _ h => .inl h) hb hok (own_of_block hrow (by unfold maxLen; omega)) ?_ e1 e2 e3 e4 e5
  rintro k ⟨b, hb, rfl⟩
  cases hb
  exact .inr hg

theorem trim_calls (h : DiskL w sb m L F C) (n : Int) : Calls Try.prog 28 #[.pointer (some ⟨sb, 0, none⟩), .int .i64 n] w (DRes w sb F C (m.trim n)) := by
  have c9 := h.cell 9 (v := .bool m.dead) rfl
  have c4 := h.cell 4 (v := .slice L.la m.log.length L.lc) rfl
  have hroom := h.ok.room
  have hlog := h.ok.log
  cases hd : m.dead
  · rw [hd] at c9
    by_cases hn : n < 0 ∨ (m.log.length : Int) < n
    · have e1 : m.trim n = (m, 1) := by simp only [DM.trim, hd]; rw [if_neg (by simp), if_pos hn]
      rw [e1]; clear e1
      have HD := hide hd; clear hd
      by_cases h0 : n < 0
      · have HN := hide hn; clear hn
        go_enter Try.func28, Try.ntmps28
        go_wp2_with fail
        go_ret
        exact DRes.same ‹_›
      · have h1 : (m.log.length : Int) < n := by omega
        have HN := hide hn; clear hn
        have h0' : decide (n < 0) = false := by simpa using h0
        go_enter Try.func28, Try.ntmps28
        go_wp2_with fail
        go_ret
        exact DRes.same ‹_›
    · have h0 : 0 ≤ n := by omega
      have h1 : n ≤ (m.log.length : Int) := by omega
      have h0' : decide (n < 0) = false := by simpa using h0
      have h1' : decide ((m.log.length : Int) < n) = false := by simpa using h1
      cases hk : m.count.2
      · have e1 : m.trim n = (m.count.1, 9) := by simp only [DM.trim, hd, hk]; rw [if_neg (by simp), if_neg hn]; simp
        rw [e1]; clear e1
        have HK := hide hk; clear hk
        have HD := hide hd; clear hd
        clear hn
        go_enter Try.func28, Try.ntmps28
        go_wp2_with (go_at_call 39; refine (counts_no h HK.out).mono ?_; rintro e w1 ⟨rfl, h1, hc1⟩)
        go_ret
        exact DRes.mk ‹_› (h.chgF ‹_› fun _ h => h)
      · have e1 : m.trim n = ({ m.count.1 with log := m.count.1.log.take n.toNat, certain := n.toNat }, 0) := by simp only [DM.trim, hd, hk]; rw [if_neg (by simp), if_neg hn]; simp
        rw [e1]; clear e1
        have HK := hide hk; clear hk
        have HD := hide hd; clear hd
        clear hn
        have e4 : m.count.1.log.length = m.log.length := by rw [(DM.count_same m).2.2.2.1]
        have E4 := hide e4
        have h1c : n ≤ (m.count.1.log.length : Int) := by omega
        clear e4
        have hsz64 : (Try.prog.info? (Try.prog.elem 28)).map (·.size) = some 1 := by kernel_rfl
        go_enter Try.func28, Try.ntmps28
        go_wp2_with (first | (go_at_call 39; refine (counts_ok h HK.out).mono ?_; rintro e w1 ⟨rfl, h1, hc1⟩; have d4 := h1.cell 4 (v := .slice L.la m.count.1.log.length L.lc) rfl; have d5 := h1.cell 5 (v := .int .i64 m.count.1.certain) rfl; have f4 := h1.free 4; have f5 := h1.free 5; have hsz := heap_lt h1.blk; have hB1 := BS.own h1.mem.log) | (refine wpList_sub_hi rfl (.tmp 30) (.tmp 31) 28 rfl Try.underlying28 hsz64 L.la m.count.1.log.length L.lc m.count.1.log rfl hB1 .i64 n rfl h0 h1c ?_; intro la' hB' hat') | (go_at_call 38; refine (clone_calls _ _ _ _ _ hB' (by omega)).mono ?_; rintro e w2 ⟨rfl, rfl⟩))
        go_ret
        have hnat : ((n.toNat : Nat) : Int) = n := by omega
        have hlenT : (m.count.1.log.take n.toNat).length = n.toNat := by rw [List.length_take]; omega
        have hcs : Chg (fun k => k = sb) w1 (((w1.setCell ⟨sb, 4, none⟩ (.slice (some ⟨w1.heap.size, 0, none⟩) n.toNat n.toNat)).setCell ⟨sb, 5, none⟩ (.int .i64 n)).alloc (.cells (bcells (m.count.1.log.take n.toNat)).toArray 5)) :=
          ((Chg.cell1 _ _ _ _).trans (Chg.cell1 _ _ _ _)).trans (Chg.alloc _ _ _)
        have hb2 := alloc_blk (setCell_blk (i := 5) (setCell_blk (i := 4) h1.blk (.slice (some ⟨w1.heap.size, 0, none⟩) n.toNat n.toNat)) (.int .i64 n)) (.cells (bcells (m.count.1.log.take n.toNat)).toArray 5)
        have hok2 : DM.Ok { m.count.1 with log := m.count.1.log.take n.toNat, certain := n.toNat } := by
          obtain ⟨a1, a2, a3, a4, a5, a6, a7, a8, a9, a10, a11, a12⟩ := h1.ok
          exact ⟨a1, a2, a3, a4, by simp only [hlenT]; omega, by simp only [hlenT]; exact Nat.le_refl _, a7, a8, a9, a10, by simp only [hlenT]; omega, a12⟩
        have hdc : (((dcells m.count.1 L).setIfInBounds 4 (.slice (some ⟨w1.heap.size, 0, none⟩) n.toNat n.toNat)).setIfInBounds 5 (.int .i64 n)) = dcells { m.count.1 with log := m.count.1.log.take n.toNat, certain := n.toNat } { L with la := some ⟨w1.heap.size, 0, none⟩, lc := (m.count.1.log.take n.toNat).length } := by
          simp [dcells, hlenT, hnat]
        rw [hdc] at hb2
        obtain ⟨F', hD, hF'⟩ := h1.newlog (m' := { m.count.1 with log := m.count.1.log.take n.toNat, certain := n.toNat }) (g := w1.heap.size) (Nat.le_refl _) hcs (heap_alloc_new' _ (by simp) _) rfl hb2 hok2 rfl rfl rfl rfl rfl
        exact ⟨rfl, F', C, ⟨_, hD⟩, ⟨(h.chgF hc1 fun _ h => h).trans (h1.chgF hcs fun _ h => h), fun k hk => (hF' k hk).imp id (fun g => Nat.le_trans hc1.size g), fun _ h => .inl h⟩⟩
  · rw [hd] at c9
    have e1 : m.trim n = (m, 9) := by simp [DM.trim, hd]
    rw [e1]; clear e1
    have HD := hide hd; clear hd
    go_enter Try.func28, Try.ntmps28
    go_wp2_with fail
    go_ret
    exact DRes.same h
end
end Go.Proofs.Ythgejjlhfdegeaa
