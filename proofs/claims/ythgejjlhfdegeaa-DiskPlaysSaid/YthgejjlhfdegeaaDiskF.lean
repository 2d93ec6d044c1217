/- The device's methods, walked: Write. -/
import Derived.Test.YthgejjlhfdegeaaDiskE
import Derived.Deep.RegionHeld3
import Derived.Maps.Own
import Derived.StillTailTactics
namespace Go.Proofs.Ythgejjlhfdegeaa
open Go.RowKit Go.MapKept

set_option maxHeartbeats 400000
section
variable {w : World} {sb : Nat} {m : DM} {L : DL} {F C : Nat → Prop}

theorem write_no (h : DiskL w sb m L F C) (n : Int) (ba : Option Addr) (bn bc : Nat) (l : List UInt8) (hl : bn = l.length) (he : m.dead = true ∨ m.has n = false ∨ bn ≠ 512) :
    Calls Try.prog 12 #[.pointer (some ⟨sb, 0, none⟩), .int .i64 n, .slice ba bn bc] w (DRes w sb F C (m.write n l)) := by
  have c9 := h.cell 9 (v := .bool m.dead) rfl
  have HL := hide hl; clear hl
  cases hd : m.dead
  · rw [hd] at c9
    cases hh : m.has n
    · have e1 : m.write n l = (m, 1) := by simp [DM.write, hd, hh]
      rw [e1]; clear e1
      have HD := hide hd; clear hd
      have HH := hide hh; clear hh he
      go_enter Try.func12, Try.ntmps12
      go_wp2_with (go_at_call 37; refine (has_calls h n).mono ?_; rintro e w1 ⟨he, rfl⟩; rw [HH.out] at he; subst he)
      go_ret
      exact DRes.same h
    · have hb : bn ≠ 512 := by
        rcases he with he | he | he
        · rw [hd] at he; cases he
        · rw [hh] at he; cases he
        · exact he
      have e1 : m.write n l = (m, 1) := by
        have : l.length ≠ 512 := by rw [← HL.out]; exact hb
        simp [DM.write, hd, hh, this]
      rw [e1]; clear e1
      have HD := hide hd; clear hd
      have HH := hide hh; clear hh he
      have hb' : ((bn : Int) != 512) = true := by simp; omega
      have hb2 : ((bn : Int) == 512) = false := by simp; omega
      clear hb
      go_enter Try.func12, Try.ntmps12
      go_wp2_with (go_at_call 37; refine (has_calls h n).mono ?_; rintro e w1 ⟨he, rfl⟩; rw [HH.out] at he; subst he)
      go_ret
      exact DRes.same h
  · rw [hd] at c9
    have e1 : m.write n l = (m, 9) := by simp [DM.write, hd]
    rw [e1]; clear e1
    have HD := hide hd; clear hd he
    go_enter Try.func12, Try.ntmps12
    go_wp2_with fail
    go_ret
    exact DRes.same h

theorem write_dies (h : DiskL w sb m L F C) (k : Nat) (ba : Option Addr) (bc : Nat) (l : List UInt8) (hb : BS w ba 512 bc l) (hd : m.dead = false) (hk : k < m.base.length) (hc0 : m.count.2 = false) :
    Calls Try.prog 12 #[.pointer (some ⟨sb, 0, none⟩), .int .i64 k, .slice ba 512 bc] w (DRes w sb F C (m.write k l)) := by
  have c9 := h.cell 9 (v := .bool m.dead) rfl
  rw [hd] at c9
  have hh : m.has k = true := by simp [DM.has]; omega
  have e1 : m.write k l = ({ m.count.1 with torn := some (k, l) }, 9) := by simp [DM.write, hd, hh, hc0, ← hb.len]
  rw [e1]; clear e1
  have hA := h.widen ((Chg.alloc NoB w (.cells (bcells l).toArray 5)).trans (Chg.alloc NoB _ (.cells #[.int .i64 k, .slice (some ⟨w.heap.size, 0, none⟩) 512 512] 70)))
  have HK := hide hc0; clear hc0
  have HD := hide hd; clear hd
  have HH := hide hh; clear hh
  have hsz := heap_lt h.blk
  go_enter Try.func12, Try.ntmps12
  go_wp2_with (first | (go_at_call 37; refine (has_calls h _).mono ?_; rintro e w1 ⟨he, rfl⟩; rw [HH.out] at he; subst he) | (go_at_call 38; refine (clone_calls _ _ _ _ _ hb (by omega)).mono ?_; rintro e w1 ⟨rfl, rfl⟩))
  refine (counts_no hA HK.out).mono ?_
  rintro e w1 ⟨rfl, h1, hc1⟩
  have d10 := h1.cell 10 (v := .pointer L.tp) rfl
  have f10 := h1.free 10
  go_wp2_with fail
  go_ret
  have hg0 : ((w.alloc (.cells (bcells l).toArray 5)).alloc (.cells #[.int .i64 k, .slice (some ⟨w.heap.size, 0, none⟩) 512 512] 70)).heap[w.heap.size]? = some (.cells (bcells l).toArray 5 (0, 0)) := alloc_blk (heap_alloc_new w _) _
  have hg1 : ((w.alloc (.cells (bcells l).toArray 5)).alloc (.cells #[.int .i64 k, .slice (some ⟨w.heap.size, 0, none⟩) 512 512] 70)).heap[w.heap.size + 1]? = some (.cells #[.int .i64 k, .slice (some ⟨w.heap.size, 0, none⟩) 512 512] 70 (0, 0)) := heap_alloc_new' _ (by simp) _
  have hc2 := hc1.trans (Chg.cell1 w1 sb 10 (.pointer (some ⟨w.heap.size + 1, 0, none⟩)))
  have hok : DM.Ok { m.count.1 with torn := some (k, l) } := by
    obtain ⟨a1, a2, a3, a4, a5, a6, a7, a8, a9, a10, a11, a12⟩ := h1.ok
    refine ⟨a1, a2, a3, a4, a5, a6, a7, a8, a9, ?_, a11, fun e => ?_⟩
    · intro p b hb'
      simp only [Option.some.injEq, Prod.mk.injEq] at hb'
      obtain ⟨rfl, rfl⟩ := hb'
      exact ⟨by rw [(DM.count_same m).2.1]; exact hk, hb.len.symm⟩
    · have := (DM.count_dead m HD.out).trans (by rw [HK.out])
      rw [this] at e; cases e
  refine DRes.mkC (L' := { L with tp := some ⟨w.heap.size + 1, 0, none⟩ }) (h1.struct (Chg.cell1 _ _ _ _) (setCell_blk h1.blk _) hok (fun hm => { hm with torn := ?_ }) rfl rfl rfl rfl)
    ((((Chg.alloc F _ _).trans (Chg.alloc F _ _)).trans (hA.chgF hc1 fun _ h => h)).trans (h1.chgF (Chg.cell1 _ _ _ _) fun _ h => h)) ?_
  · refine ⟨w.heap.size + 1, ⟨w.heap.size, 0, none⟩, 512, rfl, .inr ⟨by omega, by simp⟩, hc2.blk hg1 (by omega), ?_, .inr ⟨Nat.le_refl _, by simp only [World.size_alloc]; omega⟩⟩
    exact BS.block (hc2.blk hg0 (by omega)) hb.len (Nat.le_refl _) (by rw [hb.len]; simp [List.take_of_length_le, bcells_length])
  · rintro j (hj | ⟨hj, _⟩)
    · exact .inl hj
    · exact .inr hj

theorem news2 (w : World) (x y : Value) (t : TypeId) : ∀ ad, some (⟨w.heap.size, 0, none⟩ : Addr) = some ad → ∀ j u, [x, y][j]? = some u → (w.alloc (.cells #[x, y] t)).drew.cell? (ad.add j) = some u := by
  intro ad had j u hu
  cases had
  rw [add_zero_off, World.cell?_drew, cell_of_row _ _ _ _ _ _ (heap_alloc_new w _)]
  simpa using hu

/-- What the walk reads of the heap in a region: a cell and what it holds. -/
theorem write_ok (h : DiskL w sb m L F C) (k : Nat) (ba : Option Addr) (bc : Nat) (l : List UInt8) (hb : BS w ba 512 bc l) (hd : m.dead = false) (hk : k < m.base.length) (hc0 : m.count.2 = true) (hcnt : (m.waiting.length + 1) * 32 ≤ 140737488355328) :
    Calls Try.prog 12 #[.pointer (some ⟨sb, 0, none⟩), .int .i64 k, .slice ba 512 bc] w (DRes w sb F C (m.write k l)) := by
  have c9 := h.cell 9 (v := .bool m.dead) rfl
  rw [hd] at c9
  have hh : m.has k = true := by simp [DM.has]; omega
  have e1 : m.write k l = ({ m.count.1 with waiting := m.count.1.waiting ++ [(k, l)] }, 0) := by simp [DM.write, hd, hh, hc0, ← hb.len]
  rw [e1]; clear e1
  have hA := h.widen ((Chg.alloc NoB w (.cells (bcells l).toArray 5)).trans (Chg.alloc NoB _ (.cells #[.int .i64 k, .slice (some ⟨w.heap.size, 0, none⟩) 512 512] 70)))
  have HK := hide hc0; clear hc0
  have HD := hide hd; clear hd
  have HH := hide hh; clear hh
  have hsz := heap_lt h.blk
  have hg0 : ((w.alloc (.cells (bcells l).toArray 5)).alloc (.cells #[.int .i64 k, .slice (some ⟨w.heap.size, 0, none⟩) 512 512] 70)).heap[w.heap.size]? = some (.cells (bcells l).toArray 5 (0, 0)) := alloc_blk (heap_alloc_new w _) _
  have hg1 : ((w.alloc (.cells (bcells l).toArray 5)).alloc (.cells #[.int .i64 k, .slice (some ⟨w.heap.size, 0, none⟩) 512 512] 70)).heap[w.heap.size + 1]? = some (.cells #[.int .i64 k, .slice (some ⟨w.heap.size, 0, none⟩) 512 512] 70 (0, 0)) := heap_alloc_new' _ (by simp) _
  have HG0 := hide hg0; clear hg0
  have HG1 := hide hg1; clear hg1
  have hwl : m.count.1.waiting.length = m.waiting.length := by rw [(DM.count_same m).2.2.1]
  have HWL := hide hwl
  have hcnt1 : (m.count.1.waiting.length + 1) * 32 ≤ 140737488355328 := by rw [hwl]; exact hcnt
  clear hwl
  obtain ⟨i0, hi, hz0, hz1, hz2⟩ := info_parts infoWr
  go_enter Try.func12, Try.ntmps12
  go_wp2_with (first | (go_at_call 37; refine (has_calls h _).mono ?_; rintro e w1 ⟨he, rfl⟩; rw [HH.out] at he; subst he) | (go_at_call 38; refine (clone_calls _ _ _ _ _ hb (by omega)).mono ?_; rintro e w1 ⟨rfl, rfl⟩))
  refine (counts_ok hA HK.out).mono ?_
  rintro e w1 ⟨rfl, h1, hc1⟩
  have d2 := h1.cell 2 (v := .slice L.wa m.count.1.waiting.length L.wc) rfl
  have f2 := h1.free 2
  have hs1 : sb < w1.heap.size := heap_lt h1.blk
  have hb1 := hc1.blk HG1.out (by omega)
  have t0 : w1.cell? ⟨w.heap.size + 1, 0, none⟩ = some (.int .i64 k) := by rw [cell_of_row w1 _ _ _ _ _ hb1]; rfl
  have t1 : w1.cell? ⟨w.heap.size + 1, 1, none⟩ = some (.slice (some ⟨w.heap.size, 0, none⟩) 512 512) := by rw [cell_of_row w1 _ _ _ _ _ hb1]; rfl
  have hs2 : w.heap.size + 1 < w1.heap.size := heap_lt hb1
  have HB1 := hide hb1; clear hb1
  go_wp2_with fail
  have hown1 := fun o : Obj => ownsRow_chg h1.mem.wait ((Chg.alloc NoB w1 o).trans (Chg.drew NoB _)) (fun _ _ f => f)
  have hnews := news2 w1 (.int .i64 k) (.slice (some ⟨w.heap.size, 0, none⟩) 512 512) 70
  have HO := hide hown1; clear hown1
  have HN := hide hnews; clear hnews
  go_region_law (first | (refine step_app_own rfl (.tmp 37) (.tmp 39) 62 rfl 70 i0 (.agg #[.int .i64 0, .slice none 0 0]) 2 32 Try.underlying62 hi hz0 hz1 hz2 rfl (by decide) L.wa m.count.1.waiting.length L.wc _ rfl (HO.out _) (some ⟨w1.heap.size, 0, none⟩) 1 1 [.int .i64 k, .slice (some ⟨w.heap.size, 0, none⟩) 512 512] rfl (fun e => by cases e) rfl HN.out (by intro u hu; simp at hu; rcases hu with rfl | rfl <;> rfl) (by unfold maxLen; omega) (by omega) ?_; intro wa' wc' w2 hown hc2 hat; have g6 : w2.cell? ⟨sb, 2, none⟩ = some (.slice L.wa m.count.1.waiting.length L.wc) := (by rw [hc2.cell (p := ⟨sb, 2, none⟩) (by simp; omega) (fun e => h1.s_w e)]; exact (World.cell?_alloc_lt _ _ _ hs1).trans d2); have k6 : w2.frozen? ⟨sb, 2, none⟩ = false := (by rw [hc2.frozen (p := ⟨sb, 2, none⟩) (by simp; omega) (fun e => h1.s_w e)]; exact (World.frozen?_alloc_old _ _ _ (Nat.ne_of_lt hs1)).trans f2)))
  all_goals
    have hc3 : Chg (fun i => i = sb ∨ blkOf L.wa i ∨ i = L.mb) w1 (w2.setCell ⟨sb, 2, none⟩ (.slice wa' (m.count.1.waiting.length + 1) wc')) := (((Chg.alloc _ _ _).trans (Chg.drew _ _)).trans (hc2.mono fun _ h => .inr (.inl h))).trans (Chg.setCell _ (.inl rfl) _)
    have hb3 := setCell_blk (i := 2) (hc2.blk (k := sb) (o := .cells (dcells m.count.1 L) 66 (0, 0)) (alloc_blk h1.blk _) (fun e => h1.s_w e)) (.slice wa' (m.count.1.waiting.length + 1) wc')
    have hat3 : ∀ i, blkOf wa' i → blkOf L.wa i ∨ w1.heap.size ≤ i := fun i hi => (hat i hi).imp id (fun g => by simp at g; omega)
    have hne3 : ∀ i, blkOf wa' i → i ≠ sb := fun i hi e => (hat3 i hi).elim (fun g => h1.s_w (e ▸ g)) (fun g => by omega)
    have hown3 := ownsRow_chg hown (Chg.cell1 w2 sb 2 (.slice wa' (m.count.1.waiting.length + 1) wc')) (fun b hb e => hne3 _ ⟨b, hb, rfl⟩ e)
    have hm3 : MapAt (w2.setCell ⟨sb, 2, none⟩ (.slice wa' (m.count.1.waiting.length + 1) wc')) L.mb (.int .i64) encI L.mp := by
      refine h1.mem.map.chg (F := fun i => i = sb ∨ blkOf L.wa i) ((((Chg.alloc _ _ _).trans (Chg.drew _ _)).trans (hc2.mono fun _ h => .inr h)).trans (Chg.setCell _ (.inl rfl) _)) ?_
      exact fun e => e.elim (fun e => h1.s_m e.symm) (fun e => h1.m_w e)
    have hC1 := (h1.sep (w.heap.size + 1) (.inr ⟨by omega, by simp⟩)).1
    have hb13 := hc3.blk HB1.out (fun e => hC1 ((h1.foot _).2 (by
      rcases e with e | e | e
      · exact .inl e
      · exact .inr (.inr (.inr (.inl e)))
      · exact .inr (.inr (.inl e)))))
    have hcW : Chg F w w1 := ((Chg.alloc F _ _).trans (Chg.alloc F _ _)).trans (hA.chgF hc1 fun _ h => h)
    generalize w2.setCell ⟨sb, 2, none⟩ (.slice wa' (m.count.1.waiting.length + 1) wc') = w3 at hc3 hb3 hown3 hm3 hb13 ⊢
    clear hown hc2 hat g6 k6 w2
    have e3 : w3.cell? ⟨sb, 3, none⟩ = some (.map (some L.mb)) := by rw [cell_of_row w3 _ _ _ _ _ hb3]; rfl
    have u1 : w3.cell? ⟨w.heap.size + 1, 1, none⟩ = some (.slice (some ⟨w.heap.size, 0, none⟩) 512 512) := by rw [cell_of_row w3 _ _ _ _ _ hb13]; rfl
    have HB3 := hide hb3; clear hb3
    have HB13 := hide hb13; clear hb13
    go_wp2_with fail
    go_still_tail 7, (by kernel_rfl)
    refine wpList_put rfl (.tmp 46) (.tmp 47) (.tmp 49) 63 rfl 3 28 Try.underlying63 Try.underlying3 encI_inj encI_key L.mb rfl (hm3.chg (Chg.drew NoB _) (fun f => f)) (k : Int) rfl (.slice (some ⟨w.heap.size, 0, none⟩) 512 512) rfl ?_
    intro w4 hm4 hc4
    go_wp2_with fail
    go_ret
    have hc5 : Chg (fun i => i = sb ∨ blkOf L.wa i ∨ i = L.mb) w1 w4 := (hc3.trans (Chg.drew _ _)).trans (hc4.mono fun _ e => .inr (.inr e))
    have hC0 := (h1.sep w.heap.size (.inr ⟨Nat.le_refl _, by simp only [World.size_alloc]; omega⟩)).1
    have hb0 := hc5.blk (hc1.blk HG0.out (by omega)) (fun e => hC0 ((h1.foot _).2 (by
      rcases e with e | e | e
      · exact .inl e
      · exact .inr (.inr (.inr (.inl e)))
      · exact .inr (.inr (.inl e)))))
    have hb4 := hc4.blk (k := sb) (Chg.blk (Chg.drew NoB w3) HB3.out (fun f => f)) (fun e => h1.s_m e)
    have hwal : ∀ b, wa' = some b → b.block ≠ L.mb := fun b hb e => (hat3 _ ⟨b, hb, rfl⟩).elim (fun g => h1.m_w (e ▸ g)) (fun g => by have := h1.mem.map.lt; omega)
    have hown4 := ownsRow_chg hown3 ((Chg.drew _ _).trans hc4) hwal
    have hwl2 : (m.count.1.waiting ++ [(k, l)]).length = m.count.1.waiting.length + 1 := by simp
    have hok : DM.Ok { m.count.1 with waiting := m.count.1.waiting ++ [(k, l)] } := by
      obtain ⟨a1, a2, a3, a4, a5, a6, a7, a8, a9, a10, a11, a12⟩ := h1.ok
      refine ⟨a1, a2, ?_, a4, a5, a6, a7, a8, a9, a10, a11, a12⟩
      intro r hr
      rcases List.mem_append.1 hr with hr | hr
      · exact a3 r hr
      · simp only [List.mem_singleton] at hr
        subst hr
        exact ⟨by rw [(DM.count_same m).2.1]; exact hk, hb.len.symm⟩
    have hdc : (dcells m.count.1 L).setIfInBounds 2 (.slice wa' (m.count.1.waiting.length + 1) wc') = dcells { m.count.1 with waiting := m.count.1.waiting ++ [(k, l)] } { L with wa := wa', wc := wc', ws := L.ws ++ [⟨k, ⟨w.heap.size, 0, none⟩, 512, l⟩], mp := fun i => if i = (k : Int) then some (.slice (some ⟨w.heap.size, 0, none⟩) 512 512) else L.mp i } := by
      simp [dcells]
    rw [hdc] at hb4
    have hrow4 : w4.ownsRow 0 70 2 (.slice wa' (m.count.1.waiting ++ [(k, l)]).length wc') (m.count.1.waiting ++ [(k, l)]).length ((L.ws ++ [(⟨k, ⟨w.heap.size, 0, none⟩, 512, l⟩ : WR)]).flatMap WR.cells) := by
      rw [hwl2]; simpa [WR.cells, WR.v] using hown4
    obtain ⟨F', hD, hF'⟩ := h1.rewait (r := ⟨k, ⟨w.heap.size, 0, none⟩, 512, l⟩) hc5 hb4 hok hrow4 hat3 rfl
      ⟨BS.block hb0 hb.len (Nat.le_refl _) (by rw [hb.len]; simp [List.take_of_length_le, bcells_length]), .inr ⟨Nat.le_refl _, by simp only [World.size_alloc]; omega⟩⟩ hm4 (fun n => rfl) rfl rfl rfl rfl rfl
    refine ⟨rfl, F', _, ⟨_, hD⟩, ⟨hcW.trans (hc5.mono ?_), ?_, ?_⟩⟩
    · intro i hi
      refine (h.foot i).2 ?_
      rcases hi with e | e | e
      · exact .inl e
      · exact .inr (.inr (.inr (.inl e)))
      · exact .inr (.inr (.inl e))
    · exact fun i hi => (hF' i hi).imp id (fun g => Nat.le_trans hcW.size g)
    · rintro i (hi | ⟨hi, _⟩)
      · exact .inl hi
      · exact .inr hi

theorem write_calls (h : DiskL w sb m L F C) (n : Int) (ba : Option Addr) (bn bc : Nat) (l : List UInt8) (hb : BS w ba bn bc l) (hcnt : (m.waiting.length + 1) * 32 ≤ 140737488355328) :
    Calls Try.prog 12 #[.pointer (some ⟨sb, 0, none⟩), .int .i64 n, .slice ba bn bc] w (DRes w sb F C (m.write n l)) := by
  by_cases he : m.dead = true ∨ m.has n = false ∨ bn ≠ 512
  · exact write_no h n ba bn bc l hb.len he
  · have hd : m.dead = false := by cases hm : m.dead; rfl; exact absurd (.inl hm) he
    have hh : m.has n = true := by cases hm : m.has n; exact absurd (.inr (.inl hm)) he; rfl
    have hn : bn = 512 := by
      by_cases hm : bn = 512
      · exact hm
      · exact absurd (.inr (.inr hm)) he
    subst hn
    simp only [DM.has, decide_eq_true_eq] at hh
    obtain ⟨k, rfl⟩ := Int.eq_ofNat_of_zero_le hh.1
    have hk : k < m.base.length := by omega
    cases hc : m.count.2
    · exact write_dies h k ba bc l hb hd hk hc
    · exact write_ok h k ba bc l hb hd hk hc hcnt
end
end Go.Proofs.Ythgejjlhfdegeaa
