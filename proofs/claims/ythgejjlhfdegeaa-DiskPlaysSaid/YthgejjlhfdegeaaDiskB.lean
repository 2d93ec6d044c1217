/- The device's methods, walked: Fuse, Force, Mark, Marked, Log. -/
import Derived.Test.YthgejjlhfdegeaaDiskA
namespace Go.Proofs.Ythgejjlhfdegeaa
open Go.RowKit Go.MapKept

set_option maxHeartbeats 400000
section
variable {w : World} {sb : Nat} {m : DM} {L : DL} {F C : Nat → Prop}

/-- What a method that answers a number leaves. -/
def DRes (w : World) (sb : Nat) (F C : Nat → Prop) (r : DM × Int) (e : Ending) (w' : World) : Prop :=
  e = .returned (.int .i64 r.2) ∧ ∃ F' C', Disk w' sb r.1 F' C' ∧ Own w F C w' F' C'

theorem DRes.same {m : DM} {n : Int} (h : DiskL w sb m L F C) : DRes w sb F C (m, n) (.returned (.int .i64 n)) w := ⟨rfl, F, C, ⟨L, h⟩, Own.refl _ _ _⟩
theorem DRes.mk {w' : World} {m' : DM} {L' : DL} {n : Int} (h' : DiskL w' sb m' L' F C) (hc : Chg F w w') : DRes w sb F C (m', n) (.returned (.int .i64 n)) w' :=
  ⟨rfl, F, C, ⟨L', h'⟩, ⟨hc, fun _ h => .inl h, fun _ h => .inl h⟩⟩
theorem DiskL.chgF {G : Nat → Prop} {w' : World} (h : DiskL w sb m L F C) (hc : Chg G w w') (hG : ∀ k, G k → k = sb) : Chg F w w' := hc.mono fun k hk => (h.foot k).2 (.inl (hG k hk))

theorem fuse_calls (h : DiskL w sb m L F C) (n : Int) (hn : n ≤ 9223372036854775807) : Calls Try.prog 19 #[.pointer (some ⟨sb, 0, none⟩), .int .i64 n] w fun e w' =>
    e = .returned (.tuple #[]) ∧ DiskL w' sb (m.setFuse n) L F C ∧ Chg (fun k => k = sb) w w' := by
  have c7 := h.cell 7 (v := .int .i64 m.fuse) rfl
  have f7 := h.free 7
  have HB := hide h.blk
  have h0 := h
  have ok : (m.setFuse n).Ok := by
    obtain ⟨a1, a2, a3, a4, a5, a6, a7, a8, a9, a10, a11, a12⟩ := h.ok
    exact ⟨a1, a2, a3, a4, a5, a6, a7, by simp only [DM.setFuse]; omega, a9, a10, a11, a12⟩
  by_cases hp : -1 < n
  · have e1 : m.setFuse n = { m with fuse := n } := by simp only [DM.setFuse]; congr 1; omega
    rw [e1] at ok ⊢; clear e1
    have hc : Chg (fun k => k = sb) w (w.setCell ⟨sb, 7, none⟩ (.int .i64 n)) := Chg.cell1 _ _ _ _
    go_enter Try.func19, Try.ntmps19
    go_wp2
    all_goals go_end0
    all_goals exact ⟨rfl, h0.struct hc (setCell_blk HB.out _) ok (fun hm => { hm with }) rfl rfl rfl rfl, hc⟩
  · have e1 : m.setFuse n = { m with fuse := -1 } := by simp only [DM.setFuse]; congr 1; omega
    rw [e1] at ok ⊢; clear e1
    have hc : Chg (fun k => k = sb) w (w.setCell ⟨sb, 7, none⟩ (.int .i64 (-1))) := Chg.cell1 _ _ _ _
    go_enter Try.func19, Try.ntmps19
    go_wp2
    all_goals go_end0
    all_goals exact ⟨rfl, h0.struct hc (setCell_blk HB.out _) ok (fun hm => { hm with }) rfl rfl rfl rfl, hc⟩

theorem force_calls (h : DiskL w sb m L F C) : Calls Try.prog 17 #[.pointer (some ⟨sb, 0, none⟩)] w (DRes w sb F C m.force) := by
  have c9 := h.cell 9 (v := .bool m.dead) rfl
  cases hd : m.dead
  · rw [hd] at c9
    cases hk : m.count.2
    · have e1 : m.force = (m.count.1, 9) := by simp [DM.force, hd, hk]
      rw [e1]; clear e1
      have HK := hide hk; clear hk
      have HD := hide hd; clear hd
      go_enter Try.func17, Try.ntmps17
      go_wp2_with (go_at_call 39; refine (counts_no h HK.out).mono ?_; rintro e w1 ⟨rfl, h1, hc1⟩)
      go_ret
      exact DRes.mk h1 (h.chgF hc1 fun _ h => h)
    · have e1 : m.force = ({ m.count.1 with certain := m.count.1.log.length }, 0) := by simp [DM.force, hd, hk]
      rw [e1]; clear e1
      have HK := hide hk; clear hk
      have HD := hide hd; clear hd
      go_enter Try.func17, Try.ntmps17
      go_wp2_with (go_at_call 39; refine (counts_ok h HK.out).mono ?_; rintro e w1 ⟨rfl, h1, hc1⟩; have d4 := h1.cell 4 (v := .slice L.la m.count.1.log.length L.lc) rfl; have d5 := h1.cell 5 (v := .int .i64 m.count.1.certain) rfl; have f5 := h1.free 5; have HB := hide h1.blk)
      go_ret
      have hc : Chg (fun k => k = sb) w1 (w1.setCell ⟨sb, 5, none⟩ (.int .i64 m.count.1.log.length)) := Chg.cell1 _ _ _ _
      refine DRes.mk (h1.struct hc ?_ ?_ (fun hm => { hm with }) rfl rfl rfl rfl) (h.chgF (hc1.trans hc) fun _ h => h)
      · exact setCell_blk HB.out _
      · obtain ⟨a1, a2, a3, a4, a5, a6, a7, a8, a9, a10, a11, a12⟩ := h1.ok
        exact ⟨a1, a2, a3, a4, a5, Nat.le_refl _, a7, a8, a9, a10, a11, a12⟩
  · rw [hd] at c9
    have e1 : m.force = (m, 9) := by simp [DM.force, hd]
    rw [e1]; clear e1
    have HD := hide hd; clear hd
    go_enter Try.func17, Try.ntmps17
    go_wp2_with fail
    go_ret
    exact DRes.same h

/-- What is told is new memory. -/
def ReadPost (w : World) (r : List UInt8 × Int) (e : Ending) (w' : World) : Prop :=
  (r.2 = 0 ∧ e = .returned (.tuple #[.slice (some ⟨w.heap.size, 0, none⟩) r.1.length r.1.length, .int .i64 0]) ∧ w.alloc (.cells (bcells r.1).toArray 5) = w') ∨
  (r.2 ≠ 0 ∧ r.1 = [] ∧ e = .returned (.tuple #[.slice none 0 0, .int .i64 r.2]) ∧ w = w')

def DM.logR (m : DM) : List UInt8 × Int := if m.dead then ([], 9) else (m.log, 0)
def DM.markR (m : DM) : List UInt8 × Int := if m.dead then ([], 9) else (m.mark, 0)

theorem log_calls (h : DiskL w sb m L F C) : Calls Try.prog 18 #[.pointer (some ⟨sb, 0, none⟩)] w (ReadPost w m.logR) := by
  have c9 := h.cell 9 (v := .bool m.dead) rfl
  have c4 := h.cell 4 (v := .slice L.la m.log.length L.lc) rfl
  have hlen := h.ok.log
  have hroom := h.ok.room
  cases hd : m.dead
  · rw [hd] at c9
    have e1 : m.logR = (m.log, 0) := by simp [DM.logR, hd]
    rw [e1]; clear e1
    have HD := hide hd; clear hd
    have hB := BS.own h.mem.log
    go_enter Try.func18, Try.ntmps18
    go_wp2_with (go_at_call 38; refine (clone_calls _ _ _ _ _ hB (by omega)).mono ?_; rintro e w1 ⟨rfl, rfl⟩)
    go_ret2
    exact .inl ⟨rfl, rfl, rfl⟩
  · rw [hd] at c9
    have e1 : m.logR = ([], 9) := by simp [DM.logR, hd]
    rw [e1]; clear e1
    have HD := hide hd; clear hd
    go_enter Try.func18, Try.ntmps18
    go_wp2_with fail
    go_ret2
    exact .inr ⟨by simp, rfl, rfl, rfl⟩

theorem marked_calls (h : DiskL w sb m L F C) : Calls Try.prog 22 #[.pointer (some ⟨sb, 0, none⟩)] w (ReadPost w m.markR) := by
  have c9 := h.cell 9 (v := .bool m.dead) rfl
  have c6 := h.cell 6 (v := .slice L.ma m.mark.length L.mc) rfl
  have hlen := h.ok.mark
  cases hd : m.dead
  · rw [hd] at c9
    have e1 : m.markR = (m.mark, 0) := by simp [DM.markR, hd]
    rw [e1]; clear e1
    have HD := hide hd; clear hd
    have hB := h.mem.mark
    go_enter Try.func22, Try.ntmps22
    go_wp2_with (go_at_call 38; refine (clone_calls _ _ _ _ _ hB (by omega)).mono ?_; rintro e w1 ⟨rfl, rfl⟩)
    go_ret2
    exact .inl ⟨rfl, rfl, rfl⟩
  · rw [hd] at c9
    have e1 : m.markR = ([], 9) := by simp [DM.markR, hd]
    rw [e1]; clear e1
    have HD := hide hd; clear hd
    go_enter Try.func22, Try.ntmps22
    go_wp2_with fail
    go_ret2
    exact .inr ⟨by simp, rfl, rfl, rfl⟩

theorem DRes.mkC {w' : World} {m' : DM} {L' : DL} {C' : Nat → Prop} {n : Int} (h' : DiskL w' sb m' L' F C') (hc : Chg F w w') (hC : ∀ k, C' k → C k ∨ w.heap.size ≤ k) : DRes w sb F C (m', n) (.returned (.int .i64 n)) w' :=
  ⟨rfl, F, C', ⟨L', h'⟩, ⟨hc, fun _ h => .inl h, hC⟩⟩

theorem mark_calls (h : DiskL w sb m L F C) (ba : Option Addr) (n c : Nat) (l : List UInt8) (hb : BS w ba n c l) (hbF : ∀ b, ba = some b → 0 < n → ¬ F b.block) :
    Calls Try.prog 21 #[.pointer (some ⟨sb, 0, none⟩), .slice ba n c] w (DRes w sb F C (m.setMark l)) := by
  have c9 := h.cell 9 (v := .bool m.dead) rfl
  have hl := hb.len
  cases hd : m.dead
  · rw [hd] at c9
    by_cases hn : 64 < n
    · have e1 : m.setMark l = (m, 1) := by simp only [DM.setMark, hd]; rw [if_neg (by simp), if_pos (by omega)]
      rw [e1]; clear e1
      have HD := hide hd; clear hd
      have HL := hide hl; clear hl
      have hn' : (64 : Int) < (n : Int) := by omega
      go_enter Try.func21, Try.ntmps21
      go_wp2_with fail
      go_ret
      exact DRes.same h
    · have hn' : ¬ (64 : Int) < (n : Int) := by omega
      cases hk : m.count.2
      · have e1 : m.setMark l = (m.count.1, 9) := by simp only [DM.setMark, hd, hk]; rw [if_neg (by simp), if_neg (by omega)]; simp
        rw [e1]; clear e1
        have HK := hide hk; clear hk
        have HD := hide hd; clear hd
        have HL := hide hl; clear hl
        go_enter Try.func21, Try.ntmps21
        go_wp2_with (go_at_call 39; refine (counts_no h HK.out).mono ?_; rintro e w1 ⟨rfl, h1, hc1⟩)
        go_ret
        exact DRes.mk h1 (h.chgF hc1 fun _ h => h)
      · have e1 : m.setMark l = ({ m.count.1 with mark := l }, 0) := by simp only [DM.setMark, hd, hk]; rw [if_neg (by simp), if_neg (by omega)]; simp
        rw [e1]; clear e1
        have HK := hide hk; clear hk
        have HD := hide hd; clear hd
        have HL := hide hl; clear hl
        go_enter Try.func21, Try.ntmps21
        go_wp2_with (first | (go_at_call 39; refine (counts_ok h HK.out).mono ?_; rintro e w1 ⟨rfl, h1, hc1⟩; have d6 := h1.cell 6 (v := .slice L.ma m.count.1.mark.length L.mc) rfl; have f6 := h1.free 6; have hsz := heap_lt h1.blk; have hb1 := hb.chgw hc1 (fun b hb hp e => hbF b hb hp ((h.foot _).2 (.inl e)))) | (go_at_call 38; refine (clone_calls _ _ _ _ _ hb1 (by omega)).mono ?_; rintro e w2 ⟨rfl, rfl⟩))
        go_ret
        rw [← World.setCell_alloc_past _ _ _ _ hsz]
        have hA := h1.widen (Chg.alloc _ _ (.cells (bcells l).toArray 5))
        have hc : Chg (fun k => k = sb) (w1.alloc (.cells (bcells l).toArray 5)) ((w1.alloc (.cells (bcells l).toArray 5)).setCell ⟨sb, 6, none⟩ (.slice (some ⟨w1.heap.size, 0, none⟩) n n)) := Chg.cell1 _ _ _ _
        have hbk : (w1.alloc (.cells (bcells l).toArray 5)).heap[w1.heap.size]? = some (.cells (bcells l).toArray 5 (0, 0)) := heap_alloc_new w1 _
        have hne : w1.heap.size ≠ sb := by omega
        have hlen := HL.out
        subst hlen
        refine DRes.mkC (L' := { L with ma := some ⟨w1.heap.size, 0, none⟩, mc := l.length }) (hA.struct hc (setCell_blk hA.blk _) ?_ (fun hm => { hm with mark := ?_, markC := ?_ }) rfl rfl rfl rfl)
          (h.chgF ((hc1.trans (Chg.alloc _ _ _)).trans hc) fun _ h => h) ?_
        · obtain ⟨a1, a2, a3, a4, a5, a6, a7, a8, a9, a10, a11, a12⟩ := h1.ok
          exact ⟨a1, a2, a3, a4, a5, a6, by simpa using hn, a8, a9, a10, a11, a12⟩
        · exact BS.block (setCell_blk_other hbk hne _) rfl (Nat.le_refl _) (by simp [List.take_of_length_le, bcells_length])
        · rintro b hb'
          cases hb'
          exact .inr ⟨Nat.le_refl _, by simp⟩
        · rintro k (hk | ⟨hk, _⟩)
          · exact .inl hk
          · exact .inr (Nat.le_trans hc1.size hk)
  · rw [hd] at c9
    have e1 : m.setMark l = (m, 9) := by simp [DM.setMark, hd]
    rw [e1]; clear e1
    have HD := hide hd; clear hd
    go_enter Try.func21, Try.ntmps21
    go_wp2_with fail
    go_ret
    exact DRes.same h
end
end Go.Proofs.Ythgejjlhfdegeaa
