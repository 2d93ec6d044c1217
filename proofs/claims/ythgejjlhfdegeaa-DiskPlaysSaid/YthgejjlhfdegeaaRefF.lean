/- The reference's device: operations that are done. -/
import Derived.Test.YthgejjlhfdegeaaRefE
import Derived.Test.YthgejjlhfdegeaaKeepsP
import Derived.Test.YthgejjlhfdegeaaKeeps
namespace Go.Proofs.Ythgejjlhfdegeaa
open Go.RowKit Go.MapKept

def zcs : Array Value := #[.slice none 0 0, .slice none 0 0, .int .i64 0, .slice none 0 0, .int .i64 0, .slice none 0 0, .int .i64 0, .int .i64 0, .bool false, .int .i64 0, .slice none 0 0, .slice none 0 0, .bool false]

/-- Behind 'spend': the box holds the device that was counted. -/
structure DoS (w w2 : World) (G : Nat → Prop) (m : DM) (L : RL) : Prop where
  box : DoW w w2 (rcells m L)
  ref : RefAt w2 (GG w G) m L
theorem DoS.row {w w1 : World} {G : Nat → Prop} {m m1 : DM} {L : RL} (h : RefAt w G m1 L) (hG : Olds w G) (hc1 : Chg NoB ((w.alloc (.cells (rcells m L) 52)).alloc (.cells zcs 52)) w1) :
    DoW w w1 (rcells m L) ∧ DoS w (w1.setRow w.heap.size (rcells m1 L)) G m1 L ∧ RefAt (w1.setRow w.heap.size (rcells m1 L)) G m1 L := by
  have h1 := (DoW.start (rcells m L) zcs w rfl rfl).same hc1
  have h2 := h1.setRow (rcells m1 L) rfl
  exact ⟨h1, ⟨h2, (h.wide h1.chg).box hG (Chg.setRow1 _ _ _) (fun k hk => .inl hk)⟩, (h.chg0 h1.chg).chg (Chg.setRow1 _ _ _) (fun k hk e => by have := hG k hk; have : k = w.heap.size := e; omega)⟩
theorem DoS.same {w w1 w2 : World} {G : Nat → Prop} {m : DM} {L : RL} (h : DoS w w1 G m L) (hc : Chg NoB w1 w2) : DoS w w2 G m L := ⟨h.box.same hc, h.ref.chg0 hc⟩

set_option maxHeartbeats 2000000 in
set_option maxRecDepth 100000 in
theorem doR_force {w : World} {G : Nat → Prop} {m : DM} {L : RL} (h : RefAt w G m L) (hG : Olds w G) (hok : m.Ok) (hm : m.dead = false) (n : Int) (ba : Option Addr) (bn bc : Nat)  :
    Calls Try.prog 32 #[.agg (rcells m L), .int .i64 3, .int .i64 n, .slice ba bn bc] w (DoR w G (m.force)) := by
  have HROW := hide (fun m1 w1 (e : m1 = m.count.1) hc1 => DoS.row (m := m) (m1 := m1) (w1 := w1) (e ▸ h.count) hG hc1)
  have HSP := hide (spend_calls m L ((w.alloc (.cells (rcells m L) 52)).alloc (.cells zcs 52)) ⟨hok.fuse.2, hok.fuse.1⟩)
  have HOK := hide hok.count
  obtain ⟨s1, s2, s3, s4, s5, s6, s7, s8⟩ := DM.count_same m
  have HF : Hid ((m.count.2 = true → m.force = ({ m.count.1 with certain := m.count.1.log.length }, 0)) ∧ (m.count.2 = false → m.force = (m.count.1, 9))) := by
    constructor <;> intro hcc <;> simp [DM.force, hm, hcc]
  clear s1 s2 s3 s4 s5 s6 s7 s8
  clear h
  obtain ⟨lit, hlit⟩ : ∃ lit, lit = rcells m L := ⟨_, rfl⟩
  have h2 := hlit
  unfold rcells at h2
  rw [hm] at h2
  rw [← hlit] at HSP ⊢
  subst h2
  have HLIT := hide hlit; clear hlit
  generalize m.waiting.length = n1 at *; generalize m.base.length = n2 at *; generalize m.log.length = n3 at *; generalize m.mark.length = n4 at *; generalize m.tail.length = n5 at *; generalize m.torn.isSome = n6 at *
  go_enter Try.func32, Try.ntmps32
  go_wp2_with fail
  refine HSP.out.mono ?_
  rintro e w1 ⟨rfl, hc1⟩
  obtain ⟨hD1, hS, hO⟩ := HROW.out _ w1 rfl (by rw [← HLIT.out]; exact hc1)
  have HBOX := hide (And.intro hD1.blk hD1.size)
  generalize m.count.2 = okb at *
  generalize m.count.1 = m1 at *
  go_wp2_with (first | (refine wpList_stR rfl (.tmp 4) (.tmp 81) rfl w.heap.size rfl _ _ rfl HBOX.out.1 HBOX.out.2 rfl (rcells_one _ _) (Hid.out ?_)))
  refine hide ?_
  have hch2 : Chg NoB w (w1.setRow w.heap.size (rcells m1 L)) := hS.box.chg
  generalize w1.setRow w.heap.size (rcells m1 L) = w2 at hS hO hch2 ⊢
  clear HROW HSP HLIT HBOX hD1 hc1
  have hsz2 : w.heap.size + 2 ≤ w2.heap.size := hS.box.lt
  obtain ⟨cs, hr1, hr2⟩ := hS.box.res
  have HR := hide (And.intro hr1 hr2); clear hr1 hr2
  cases okb
  · have HB := hide (And.intro hS.box.blk hS.box.size)
    have HFF := hide HF.out.2; clear HF
    go_wp2_with (first | (refine wpList_ldR rfl (.tmp 4) rfl w.heap.size rfl _ HB.out.1 HB.out.2 ?_) | (refine wpList_stR rfl (.tmp 8) (.tmp 98) rfl (w.heap.size + 1) rfl cs _ rfl HR.out.1 HR.out.2 rfl (rcells_one _ _) ?_))
    rw [HFF.out (by first | rfl | trivial)]
    exact hS.box.fin hG rfl rfl rfl hS.ref
  · have c3 := hS.box.cell 3 (v := .slice L.la m1.log.length L.lc) rfl
    have c4 := hS.box.cell 4 (v := .int .i64 m1.certain) rfl
    have f4 := hS.box.free 4
    have hB3 : DoW w (w2.setCell ⟨w.heap.size, 4, none⟩ (.int .i64 m1.log.length)) (rcells { m1 with certain := m1.log.length } L) := hS.box.set 4 (.int .i64 m1.log.length)
    have hSE : DoS w (w2.setCell ⟨w.heap.size, 4, none⟩ (.int .i64 m1.log.length)) G { m1 with certain := m1.log.length } L := ⟨hB3, { hS.ref.box hG (Chg.cell1 w2 w.heap.size 4 (.int .i64 m1.log.length)) (fun k hk => .inl hk) with }⟩
    clear hB3
    have HB := hide (And.intro hSE.box.blk hSE.box.size)
    clear HR
    obtain ⟨cs, hr1, hr2⟩ := hSE.box.res
    have HR := hide (And.intro hr1 hr2); clear hr1 hr2
    have HFF := hide HF.out.1; clear HF
    go_wp2_with (first | (refine wpList_ldR rfl (.tmp 4) rfl w.heap.size rfl _ HB.out.1 HB.out.2 ?_) | (refine wpList_stR rfl (.tmp 8) (.tmp 167) rfl (w.heap.size + 1) rfl cs _ rfl HR.out.1 HR.out.2 rfl (rcells_one _ _) ?_))
    rw [HFF.out (by first | rfl | trivial)]
    exact hSE.box.fin hG rfl rfl rfl hSE.ref
set_option maxHeartbeats 2000000 in
set_option maxRecDepth 100000 in
theorem doR_mark {w : World} {G : Nat → Prop} {m : DM} {L : RL} (h : RefAt w G m L) (hG : Olds w G) (hok : m.Ok) (hm : m.dead = false) (n : Int) (ba : Option Addr) (bn bc : Nat) (b : List UInt8) (hb : BS w ba bn bc b) (h64 : ¬ (64 : Int) < (bn : Int)) :
    Calls Try.prog 32 #[.agg (rcells m L), .int .i64 6, .int .i64 n, .slice ba bn bc] w (DoR w G (m.setMark b)) := by
  have HROW := hide (fun m1 w1 (e : m1 = m.count.1) hc1 => DoS.row (m := m) (m1 := m1) (w1 := w1) (e ▸ h.count) hG hc1)
  have HSP := hide (spend_calls m L ((w.alloc (.cells (rcells m L) 52)).alloc (.cells zcs 52)) ⟨hok.fuse.2, hok.fuse.1⟩)
  have HOK := hide hok.count
  obtain ⟨s1, s2, s3, s4, s5, s6, s7, s8⟩ := DM.count_same m
  have hbl := hb.len
  have HF : Hid ((m.count.2 = true → m.setMark b = ({ m.count.1 with mark := b }, 0)) ∧ (m.count.2 = false → m.setMark b = (m.count.1, 9))) := by
    constructor <;> intro hcc <;> simp [DM.setMark, hm, hcc, show ¬ 64 < b.length by omega]
  have HBS := hide hb; clear hb hbl
  clear s1 s2 s3 s4 s5 s6 s7 s8
  clear h
  obtain ⟨lit, hlit⟩ : ∃ lit, lit = rcells m L := ⟨_, rfl⟩
  have h2 := hlit
  unfold rcells at h2
  rw [hm] at h2
  rw [← hlit] at HSP ⊢
  subst h2
  have HLIT := hide hlit; clear hlit
  generalize m.waiting.length = n1 at *; generalize m.base.length = n2 at *; generalize m.log.length = n3 at *; generalize m.mark.length = n4 at *; generalize m.tail.length = n5 at *; generalize m.torn.isSome = n6 at *
  go_enter Try.func32, Try.ntmps32
  go_wp2_with fail
  refine HSP.out.mono ?_
  rintro e w1 ⟨rfl, hc1⟩
  obtain ⟨hD1, hS, hO⟩ := HROW.out _ w1 rfl (by rw [← HLIT.out]; exact hc1)
  have HBOX := hide (And.intro hD1.blk hD1.size)
  generalize m.count.2 = okb at *
  generalize m.count.1 = m1 at *
  go_wp2_with (first | (refine wpList_stR rfl (.tmp 4) (.tmp 81) rfl w.heap.size rfl _ _ rfl HBOX.out.1 HBOX.out.2 rfl (rcells_one _ _) (Hid.out ?_)))
  refine hide ?_
  have hch2 : Chg NoB w (w1.setRow w.heap.size (rcells m1 L)) := hS.box.chg
  generalize w1.setRow w.heap.size (rcells m1 L) = w2 at hS hO hch2 ⊢
  clear HROW HSP HLIT HBOX hD1 hc1
  have hsz2 : w.heap.size + 2 ≤ w2.heap.size := hS.box.lt
  obtain ⟨cs, hr1, hr2⟩ := hS.box.res
  have HR := hide (And.intro hr1 hr2); clear hr1 hr2
  cases okb
  · have HB := hide (And.intro hS.box.blk hS.box.size)
    have HFF := hide HF.out.2; clear HF
    go_wp2_with (first | (refine wpList_ldR rfl (.tmp 4) rfl w.heap.size rfl _ HB.out.1 HB.out.2 ?_) | (refine wpList_stR rfl (.tmp 8) (.tmp 98) rfl (w.heap.size + 1) rfl cs _ rfl HR.out.1 HR.out.2 rfl (rcells_one _ _) ?_))
    rw [HFF.out (by first | rfl | trivial)]
    exact hS.box.fin hG rfl rfl rfl hS.ref
  · have hB2 := HBS.out.chg0 hch2
    go_wp2_with fail
    refine (copied_calls _ _ _ b _ hB2 (by omega)).mono ?_
    rintro e w3 ⟨a3, c3, rfl, h2, h3, h4⟩
    have hS3 := hS.same h3
    have HH2 := hide h2; clear h2
    have c5 := hS3.box.cell 5 (v := .slice L.ma m1.mark.length L.mc) rfl
    have f5 := hS3.box.free 5
    have hcs := Chg.cell1 w3 w.heap.size 5 (.slice a3 b.length c3)
    have hSE : DoS w (w3.setCell ⟨w.heap.size, 5, none⟩ (.slice a3 b.length c3)) G { m1 with mark := b } { L with ma := a3, mc := c3 } :=
      ⟨hS3.box.set 5 (.slice a3 b.length c3), { hS3.ref.box hG hcs (fun k hk => .inl hk) with
        mark := (BS.own HH2.out).chg hcs (fun b hb e => by have := h4 b hb; have : b.block = w.heap.size := e; omega)
        markG := fun b hb _ => .inr (by have := h4 b hb; omega) }⟩
    clear hS hS3
    have HB := hide (And.intro hSE.box.blk hSE.box.size)
    clear HR
    obtain ⟨cs, hr1, hr2⟩ := hSE.box.res
    have HR := hide (And.intro hr1 hr2); clear hr1 hr2
    have HFF := hide HF.out.1; clear HF
    go_wp2_with (first | (refine wpList_ldR rfl (.tmp 4) rfl w.heap.size rfl _ HB.out.1 HB.out.2 ?_) | (refine wpList_stR rfl (.tmp 8) (.tmp 167) rfl (w.heap.size + 1) rfl cs _ rfl HR.out.1 HR.out.2 rfl (rcells_one _ _) ?_))
    rw [HFF.out (by first | rfl | trivial)]
    exact hSE.box.fin hG rfl rfl rfl hSE.ref
set_option maxHeartbeats 2000000 in
set_option maxRecDepth 100000 in
theorem doR_trim {w : World} {G : Nat → Prop} {m : DM} {L : RL} (h : RefAt w G m L) (hG : Olds w G) (hok : m.Ok) (hm : m.dead = false) (n : Int) (ba : Option Addr) (bn bc : Nat) (h0 : ¬ n < 0) (h1 : ¬ (m.log.length : Int) < n) :
    Calls Try.prog 32 #[.agg (rcells m L), .int .i64 5, .int .i64 n, .slice ba bn bc] w (DoR w G (m.trim n)) := by
  have HROW := hide (fun m1 w1 (e : m1 = m.count.1) hc1 => DoS.row (m := m) (m1 := m1) (w1 := w1) (e ▸ h.count) hG hc1)
  have HSP := hide (spend_calls m L ((w.alloc (.cells (rcells m L) 52)).alloc (.cells zcs 52)) ⟨hok.fuse.2, hok.fuse.1⟩)
  have HOK := hide hok.count
  obtain ⟨s1, s2, s3, s4, s5, s6, s7, s8⟩ := DM.count_same m
  have HF : Hid ((m.count.2 = true → m.trim n = ({ m.count.1 with log := m.count.1.log.take n.toNat, certain := n.toNat }, 0)) ∧ (m.count.2 = false → m.trim n = (m.count.1, 9))) := by
    constructor <;> intro hcc <;> simp [DM.trim, hm, hcc, h0, h1]
  obtain ⟨k, rfl⟩ := Int.eq_ofNat_of_zero_le (show 0 ≤ n by omega)
  rw [Int.toNat_natCast] at HF
  have h1' : k ≤ m.count.1.log.length := by rw [s4]; omega
  clear s1 s2 s3 s4 s5 s6 s7 s8
  clear h
  obtain ⟨lit, hlit⟩ : ∃ lit, lit = rcells m L := ⟨_, rfl⟩
  have h2 := hlit
  unfold rcells at h2
  rw [hm] at h2
  rw [← hlit] at HSP ⊢
  subst h2
  have HLIT := hide hlit; clear hlit
  generalize m.waiting.length = n1 at *; generalize m.base.length = n2 at *; generalize m.log.length = n3 at *; generalize m.mark.length = n4 at *; generalize m.tail.length = n5 at *; generalize m.torn.isSome = n6 at *
  go_enter Try.func32, Try.ntmps32
  go_wp2_with fail
  refine HSP.out.mono ?_
  rintro e w1 ⟨rfl, hc1⟩
  obtain ⟨hD1, hS, hO⟩ := HROW.out _ w1 rfl (by rw [← HLIT.out]; exact hc1)
  have HBOX := hide (And.intro hD1.blk hD1.size)
  generalize m.count.2 = okb at *
  generalize m.count.1 = m1 at *
  go_wp2_with (first | (refine wpList_stR rfl (.tmp 4) (.tmp 81) rfl w.heap.size rfl _ _ rfl HBOX.out.1 HBOX.out.2 rfl (rcells_one _ _) (Hid.out ?_)))
  refine hide ?_
  have hch2 : Chg NoB w (w1.setRow w.heap.size (rcells m1 L)) := hS.box.chg
  generalize w1.setRow w.heap.size (rcells m1 L) = w2 at hS hO hch2 ⊢
  clear HROW HSP HLIT HBOX hD1 hc1
  have hsz2 : w.heap.size + 2 ≤ w2.heap.size := hS.box.lt
  obtain ⟨cs, hr1, hr2⟩ := hS.box.res
  have HR := hide (And.intro hr1 hr2); clear hr1 hr2
  cases okb
  · have HB := hide (And.intro hS.box.blk hS.box.size)
    have HFF := hide HF.out.2; clear HF
    go_wp2_with (first | (refine wpList_ldR rfl (.tmp 4) rfl w.heap.size rfl _ HB.out.1 HB.out.2 ?_) | (refine wpList_stR rfl (.tmp 8) (.tmp 98) rfl (w.heap.size + 1) rfl cs _ rfl HR.out.1 HR.out.2 rfl (rcells_one _ _) ?_))
    rw [HFF.out (by first | rfl | trivial)]
    exact hS.box.fin hG rfl rfl rfl hS.ref
  · have c3 := hS.box.cell 3 (v := .slice L.la m1.log.length L.lc) rfl
    have hB2 := hS.ref.log.take h1'
    have hcap := hS.ref.log.cap
    have hll : m1.log.length ≤ 16777216 := Nat.le_trans HOK.out.log HOK.out.room
    have q1 : (0 : Int) ≤ (k : Int) := by omega
    have q2 : (k : Int) ≤ (L.lc : Int) := by omega
    have htl : (m1.log.take k).length = k := by rw [List.length_take]; omega
    have HTL := hide htl; clear htl
    go_wp2_with fail
    refine (copied_calls _ _ _ (m1.log.take k) _ hB2 (by omega)).mono ?_
    rintro e w3 ⟨a3, c3', rfl, h2, h3, h4⟩
    rw [HTL.out] at h2 ⊢
    have hS3 := hS.same h3
    have HH2 := hide h2; clear h2 c3
    have c3 := hS3.box.cell 3 (v := .slice L.la m1.log.length L.lc) rfl
    have f3 := hS3.box.free 3
    have hcs := Chg.cell1 w3 w.heap.size 3 (.slice a3 k c3')
    have hcs2 := Chg.cell1 (w3.setCell ⟨w.heap.size, 3, none⟩ (.slice a3 k c3')) w.heap.size 4 (.int .i64 k)
    have c4 : (w3.setCell ⟨w.heap.size, 3, none⟩ (.slice a3 k c3')).cell? ⟨w.heap.size, 4, none⟩ = some (.int .i64 m1.certain) := (hS3.box.set 3 _).cell 4 rfl
    have f4 : (w3.setCell ⟨w.heap.size, 3, none⟩ (.slice a3 k c3')).frozen? ⟨w.heap.size, 4, none⟩ = false := (hS3.box.set 3 _).free 4
    have hSE : DoS w ((w3.setCell ⟨w.heap.size, 3, none⟩ (.slice a3 k c3')).setCell ⟨w.heap.size, 4, none⟩ (.int .i64 k)) G { m1 with log := m1.log.take k, certain := k } { L with la := a3, lc := c3' } :=
      ⟨by have := (hS3.box.set 3 (.slice a3 k c3')).set 4 (.int .i64 k); unfold rcells; simp only [HTL.out]; exact this, { hS3.ref.box hG (hcs.trans hcs2) (fun k hk => .inl hk) with
        log := by simp only [HTL.out]; exact (BS.own HH2.out).chg (hcs.trans hcs2) (fun b hb e => by have := h4 b hb; have : b.block = w.heap.size := e; omega)
        logG := fun b hb _ => .inr (by have := h4 b hb; omega) }⟩
    clear hS hS3
    have HB := hide (And.intro hSE.box.blk hSE.box.size)
    clear HR
    obtain ⟨cs, hr1, hr2⟩ := hSE.box.res
    have HR := hide (And.intro hr1 hr2); clear hr1 hr2
    have HFF := hide HF.out.1; clear HF
    go_wp2_with (first | (refine wpList_ldR rfl (.tmp 4) rfl w.heap.size rfl _ HB.out.1 HB.out.2 ?_) | (refine wpList_stR rfl (.tmp 8) (.tmp 167) rfl (w.heap.size + 1) rfl cs _ rfl HR.out.1 HR.out.2 rfl (rcells_one _ _) ?_))
    rw [HFF.out (by first | rfl | trivial)]
    exact hSE.box.fin hG rfl rfl rfl hSE.ref
set_option maxHeartbeats 2000000 in
set_option maxRecDepth 100000 in
theorem doR_cut {w : World} {G : Nat → Prop} {m : DM} {L : RL} (h : RefAt w G m L) (hG : Olds w G) (hok : m.Ok) (hm : m.dead = false) (n : Int) (ba : Option Addr) (bn bc : Nat) (h0 : ¬ n < 0) (h1 : ¬ (m.certain : Int) < n) (b : List UInt8) (hb : BS w ba bn bc b) (h64 : ¬ (64 : Int) < (bn : Int)) :
    Calls Try.prog 32 #[.agg (rcells m L), .int .i64 4, .int .i64 n, .slice ba bn bc] w (DoR w G (m.cut n b)) := by
  have HROW := hide (fun m1 w1 (e : m1 = m.count.1) hc1 => DoS.row (m := m) (m1 := m1) (w1 := w1) (e ▸ h.count) hG hc1)
  have HSP := hide (spend_calls m L ((w.alloc (.cells (rcells m L) 52)).alloc (.cells zcs 52)) ⟨hok.fuse.2, hok.fuse.1⟩)
  have HOK := hide hok.count
  obtain ⟨s1, s2, s3, s4, s5, s6, s7, s8⟩ := DM.count_same m
  have hbl := hb.len
  have HF : Hid ((m.count.2 = true → m.cut n b = ({ m.count.1 with log := m.count.1.log.drop n.toNat, certain := m.count.1.certain - n.toNat, mark := b }, 0)) ∧ (m.count.2 = false → m.cut n b = (m.count.1, 9))) := by
    constructor <;> intro hcc <;> simp [DM.cut, hm, hcc, h0, h1, show ¬ 64 < b.length by omega]
  have HBS := hide hb; clear hb hbl
  obtain ⟨k, rfl⟩ := Int.eq_ofNat_of_zero_le (show 0 ≤ n by omega)
  rw [Int.toNat_natCast] at HF
  have h1' : k ≤ m.count.1.certain := by rw [s5]; omega
  have hsz64 : (Try.prog.info? (Try.prog.elem 28)).map (·.size) = some 1 := by kernel_rfl
  clear s1 s2 s3 s4 s5 s6 s7 s8
  clear h
  obtain ⟨lit, hlit⟩ : ∃ lit, lit = rcells m L := ⟨_, rfl⟩
  have h2 := hlit
  unfold rcells at h2
  rw [hm] at h2
  rw [← hlit] at HSP ⊢
  subst h2
  have HLIT := hide hlit; clear hlit
  generalize m.waiting.length = n1 at *; generalize m.base.length = n2 at *; generalize m.log.length = n3 at *; generalize m.mark.length = n4 at *; generalize m.tail.length = n5 at *; generalize m.torn.isSome = n6 at *
  go_enter Try.func32, Try.ntmps32
  go_wp2_with fail
  refine HSP.out.mono ?_
  rintro e w1 ⟨rfl, hc1⟩
  obtain ⟨hD1, hS, hO⟩ := HROW.out _ w1 rfl (by rw [← HLIT.out]; exact hc1)
  have HBOX := hide (And.intro hD1.blk hD1.size)
  generalize m.count.2 = okb at *
  generalize m.count.1 = m1 at *
  go_wp2_with (first | (refine wpList_stR rfl (.tmp 4) (.tmp 81) rfl w.heap.size rfl _ _ rfl HBOX.out.1 HBOX.out.2 rfl (rcells_one _ _) (Hid.out ?_)))
  refine hide ?_
  have hch2 : Chg NoB w (w1.setRow w.heap.size (rcells m1 L)) := hS.box.chg
  generalize w1.setRow w.heap.size (rcells m1 L) = w2 at hS hO hch2 ⊢
  clear HROW HSP HLIT HBOX hD1 hc1
  have hsz2 : w.heap.size + 2 ≤ w2.heap.size := hS.box.lt
  obtain ⟨cs, hr1, hr2⟩ := hS.box.res
  have HR := hide (And.intro hr1 hr2); clear hr1 hr2
  cases okb
  · have HB := hide (And.intro hS.box.blk hS.box.size)
    have HFF := hide HF.out.2; clear HF
    go_wp2_with (first | (refine wpList_ldR rfl (.tmp 4) rfl w.heap.size rfl _ HB.out.1 HB.out.2 ?_) | (refine wpList_stR rfl (.tmp 8) (.tmp 98) rfl (w.heap.size + 1) rfl cs _ rfl HR.out.1 HR.out.2 rfl (rcells_one _ _) ?_))
    rw [HFF.out (by first | rfl | trivial)]
    exact hS.box.fin hG rfl rfl rfl hS.ref
  · have c3 := hS.box.cell 3 (v := .slice L.la m1.log.length L.lc) rfl
    have hll : m1.log.length ≤ 16777216 := Nat.le_trans HOK.out.log HOK.out.room
    have hcl : m1.certain ≤ m1.log.length := HOK.out.certain
    have hB1 := hS.ref.log
    have hlen : (m1.log.drop k).length = m1.log.length - k := List.length_drop
    have HLEN := hide hlen; clear hlen
    go_wp2_with (first | (refine wpList_sub_lo rfl (.tmp 139) (.tmp 140) 28 rfl Try.underlying28 hsz64 L.la m1.log.length L.lc m1.log rfl hB1 .i64 (k : Int) rfl (by omega) (by omega) ?_; intro la' hB' hat'))
    refine (copied_calls _ _ _ _ _ hB' (by omega)).mono ?_
    rintro e w3 ⟨a3, c3', rfl, h2, h3, h4⟩
    simp only [Int.toNat_natCast] at h2 ⊢
    rw [HLEN.out] at h2 ⊢
    have hS3 := hS.same h3
    have HH2 := hide h2; clear h2 c3 hB' hat'
    have c3 := hS3.box.cell 3 (v := .slice L.la m1.log.length L.lc) rfl
    have f3 := hS3.box.free 3
    have hcs := Chg.cell1 w3 w.heap.size 3 (.slice a3 (m1.log.length - k) c3')
    have hb4 := hS3.box.set 3 (.slice a3 (m1.log.length - k) c3')
    have c4 := hb4.cell 4 (v := .int .i64 m1.certain) rfl
    have f4 := hb4.free 4
    have hcs2 := Chg.cell1 (w3.setCell ⟨w.heap.size, 3, none⟩ (.slice a3 (m1.log.length - k) c3')) w.heap.size 4 (.int .i64 ((m1.certain : Int) - (k : Int)))
    have hb5 := hb4.set 4 (.int .i64 ((m1.certain : Int) - (k : Int)))
    have hcA := hcs.trans hcs2
    have hch4 := hb5.chg
    have hRef := hS3.ref.box hG hcA (fun k hk => .inl hk)
    have hLog := (BS.own HH2.out).chg hcA (fun b hb e => by have := h4 b hb; have : b.block = w.heap.size := e; omega)
    have HHL := hide hLog; clear hLog
    generalize hwe : (w3.setCell ⟨w.heap.size, 3, none⟩ (.slice a3 (m1.log.length - k) c3')).setCell ⟨w.heap.size, 4, none⟩ (.int .i64 ((m1.certain : Int) - (k : Int))) = w4 at hb5 hch4 hRef HHL
    have HWE := hide hwe; clear hwe hcA hcs2 hcs hb4
    go_wp2_with fail
    rw [HWE.out]
    have hB2 := HBS.out.chg0 hch4
    have hsz4 : w.heap.size + 2 ≤ w4.heap.size := hb5.lt
    clear c3 c4 f3 f4 HWE
    refine (copied_calls _ _ _ b _ hB2 (by omega)).mono ?_
    rintro e w5 ⟨a6, c6, rfl, h6, h7, h8⟩
    have hb6 := hb5.same h7
    have hRef6 := hRef.chg0 h7
    have HH6 := hide h6; have HHL6 := hide (HHL.out.chg0 h7); clear h6 HHL
    have c5 := hb6.cell 5 (v := .slice L.ma m1.mark.length L.mc) rfl
    have f5 := hb6.free 5
    have hcs := Chg.cell1 w5 w.heap.size 5 (.slice a6 b.length c6)
    have hnat : (m1.certain : Int) - (k : Int) = ((m1.certain - k : Nat) : Int) := by omega
    have hSE : DoS w (w5.setCell ⟨w.heap.size, 5, none⟩ (.slice a6 b.length c6)) G { m1 with log := m1.log.drop k, certain := m1.certain - k, mark := b } { L with la := a3, lc := c3', ma := a6, mc := c6 } :=
      ⟨by have := hb6.set 5 (.slice a6 b.length c6); unfold rcells; simp only [HLEN.out]; rw [hnat] at this; exact this, { hRef6.box hG hcs (fun k hk => .inl hk) with
        log := by simp only [HLEN.out]; exact HHL6.out.chg hcs (fun b hb e => by have := h4 b hb; have : b.block = w.heap.size := e; omega)
        logG := fun b hb _ => .inr (by have := h4 b hb; omega)
        mark := (BS.own HH6.out).chg hcs (fun b hb e => by have := h8 b hb; have : b.block = w.heap.size := e; omega)
        markG := fun b hb _ => .inr (by have := h8 b hb; omega) }⟩
    clear hS hS3 hnat
    have HB := hide (And.intro hSE.box.blk hSE.box.size)
    clear HR
    obtain ⟨cs, hr1, hr2⟩ := hSE.box.res
    have HR := hide (And.intro hr1 hr2); clear hr1 hr2
    have HFF := hide HF.out.1; clear HF
    go_wp2_with (first | (refine wpList_ldR rfl (.tmp 4) rfl w.heap.size rfl _ HB.out.1 HB.out.2 ?_) | (refine wpList_stR rfl (.tmp 8) (.tmp 167) rfl (w.heap.size + 1) rfl cs _ rfl HR.out.1 HR.out.2 rfl (rcells_one _ _) ?_))
    rw [HFF.out (by first | rfl | trivial)]
    exact hSE.box.fin hG rfl rfl rfl hSE.ref
set_option maxHeartbeats 2000000 in
set_option maxRecDepth 100000 in
theorem doR_append {w : World} {G : Nat → Prop} {m : DM} {L : RL} (h : RefAt w G m L) (hG : Olds w G) (hok : m.Ok) (hm : m.dead = false) (n : Int) (ba : Option Addr) (bn bc : Nat) (h1 : ¬ (m.room : Int) < (m.log.length : Int) + (bn : Int)) (b : List UInt8) (hb : BS w ba bn bc b) :
    Calls Try.prog 32 #[.agg (rcells m L), .int .i64 2, .int .i64 n, .slice ba bn bc] w (DoR w G (m.append b)) := by
  have HROW := hide (fun m1 w1 (e : m1 = m.count.1) hc1 => DoS.row (m := m) (m1 := m1) (w1 := w1) (e ▸ h.count) hG hc1)
  have HSP := hide (spend_calls m L ((w.alloc (.cells (rcells m L) 52)).alloc (.cells zcs 52)) ⟨hok.fuse.2, hok.fuse.1⟩)
  have HOK := hide hok.count
  obtain ⟨s1, s2, s3, s4, s5, s6, s7, s8⟩ := DM.count_same m
  have hbl := hb.len
  have hrm := hok.room
  have HF : Hid ((m.count.2 = true → m.append b = ({ m.count.1 with log := m.count.1.log ++ b }, 0)) ∧ (m.count.2 = false → m.append b = ({ m.count.1 with tail := b }, 9))) := by
    constructor <;> intro hcc <;> simp [DM.append, hm, hcc, show ¬ m.room < m.log.length + b.length by omega]
  have HBS := hide hb; have hbr : bn ≤ 16777216 := by omega
  have HNIL : Hid (ba = none → bn = 0 ∧ bc = 0) := fun e => ⟨by have := hb.nil e; have := hb.cap; omega, hb.nil e⟩
  have hsum : m.count.1.log.length + bn ≤ 16777216 := by rw [s4]; omega
  have HBL := hide hbl; clear hb hbl
  obtain ⟨iu, hu, hu0, hu1, hu2⟩ := info_parts infoU8
  clear s1 s2 s3 s4 s5 s6 s7 s8
  clear h
  obtain ⟨lit, hlit⟩ : ∃ lit, lit = rcells m L := ⟨_, rfl⟩
  have h2 := hlit
  unfold rcells at h2
  rw [hm] at h2
  rw [← hlit] at HSP ⊢
  subst h2
  have HLIT := hide hlit; clear hlit
  generalize m.waiting.length = n1 at *; generalize m.base.length = n2 at *; generalize m.log.length = n3 at *; generalize m.mark.length = n4 at *; generalize m.tail.length = n5 at *; generalize m.torn.isSome = n6 at *
  go_enter Try.func32, Try.ntmps32
  go_wp2_with fail
  refine HSP.out.mono ?_
  rintro e w1 ⟨rfl, hc1⟩
  obtain ⟨hD1, hS, hO⟩ := HROW.out _ w1 rfl (by rw [← HLIT.out]; exact hc1)
  have HBOX := hide (And.intro hD1.blk hD1.size)
  generalize m.count.2 = okb at *
  generalize m.count.1 = m1 at *
  go_wp2_with (first | (refine wpList_stR rfl (.tmp 4) (.tmp 81) rfl w.heap.size rfl _ _ rfl HBOX.out.1 HBOX.out.2 rfl (rcells_one _ _) (Hid.out ?_)))
  refine hide ?_
  have hch2 : Chg NoB w (w1.setRow w.heap.size (rcells m1 L)) := hS.box.chg
  generalize w1.setRow w.heap.size (rcells m1 L) = w2 at hS hO hch2 ⊢
  clear HROW HSP HLIT HBOX hD1 hc1
  have hsz2 : w.heap.size + 2 ≤ w2.heap.size := hS.box.lt
  obtain ⟨cs, hr1, hr2⟩ := hS.box.res
  have HR := hide (And.intro hr1 hr2); clear hr1 hr2
  cases okb
  · have hB2 := HBS.out.chg0 hch2
    go_wp2_with fail
    refine (copied_calls _ _ _ b _ hB2 (by omega)).mono ?_
    rintro e w3 ⟨a3, c3, rfl, h2, h3, h4⟩
    have hS3 := hS.same h3
    have HH2 := hide h2; clear h2
    have c11 := hS3.box.cell 11 (v := .slice L.ta m1.tail.length L.tc) rfl
    have f11 := hS3.box.free 11
    have hcs := Chg.cell1 w3 w.heap.size 11 (.slice a3 b.length c3)
    have hSE : DoS w (w3.setCell ⟨w.heap.size, 11, none⟩ (.slice a3 b.length c3)) G { m1 with tail := b } { L with ta := a3, tc := c3 } :=
      ⟨hS3.box.set 11 (.slice a3 b.length c3), { hS3.ref.box hG hcs (fun k hk => .inl hk) with
        tail := (BS.own HH2.out).chg hcs (fun b hb e => by have := h4 b hb; have : b.block = w.heap.size := e; omega)
        tailG := fun b hb _ => .inr (by have := h4 b hb; omega) }⟩
    clear hS hS3
    have HB := hide (And.intro hSE.box.blk hSE.box.size)
    clear HR
    obtain ⟨cs, hr1, hr2⟩ := hSE.box.res
    have HR := hide (And.intro hr1 hr2); clear hr1 hr2
    have HFF := hide HF.out.2; clear HF
    go_wp2_with (first | (refine wpList_ldR rfl (.tmp 4) rfl w.heap.size rfl _ HB.out.1 HB.out.2 ?_) | (refine wpList_stR rfl (.tmp 8) (.tmp 98) rfl (w.heap.size + 1) rfl cs _ rfl HR.out.1 HR.out.2 rfl (rcells_one _ _) ?_))
    rw [HFF.out (by first | rfl | trivial)]
    exact hSE.box.fin hG rfl rfl rfl hSE.ref
  · have c3 := hS.box.cell 3 (v := .slice L.la m1.log.length L.lc) rfl
    have hll : m1.log.length ≤ 16777216 := Nat.le_trans HOK.out.log HOK.out.room
    have hB1 := hS.ref.log
    go_wp2_with fail
    refine (copied_calls _ _ _ m1.log _ hB1 (by omega)).mono ?_
    rintro e w3 ⟨a3, c3', rfl, h2, h3, h4⟩
    have hS3 := hS.same h3
    have hB3 := (HBS.out.chg0 hch2).chg0 h3
    have HB3 := hide hB3; have HH2 := hide h2; clear h2 c3 hB3
    go_wp2_with (first | (at_builtin; refine wpList_app_own rfl (.tmp 126) (.tmp 127) 28 rfl 5 iu (.int .u8 0) 1 1 Try.underlying28 hu hu0 hu1 hu2 rfl (by decide) a3 m1.log.length c3' (bcells m1.log) rfl HH2.out ba bn bc (bcells b) rfl HNIL.out (by rw [bcells_length, Nat.mul_one]; exact HBL.out.symm) HB3.out.cell (bcells_one b) (by unfold maxLen; omega) (by omega) (Hid.out ?_)))
    refine hide (fun a4 c4 w4 hr4 hc4 hat4 => ?_)
    try go_frame
    have hfa : ∀ j, (∃ b, a3 = some b ∧ b.block = j) → w.heap.size + 2 ≤ j := by rintro j ⟨b, hb, rfl⟩; have := h4 b hb; omega
    have hfa4 : ∀ b, a4 = some b → w.heap.size + 2 ≤ b.block := fun b hb => (hat4 b hb).elim (fun h => hfa _ h) (fun h => by have := h3.size; omega)
    have hb4 : DoW w w4 (rcells m1 L) := by
      obtain ⟨cs', q1, q2⟩ := hS3.box.res
      exact ⟨hc4.blk hS3.box.blk (fun e => by have := hfa _ e; omega), ⟨cs', hc4.blk q1 (fun e => by have := hfa _ e; omega), q2⟩, rfl, hS3.box.chg.trans' hc4 (fun i hi => .inr (by have := hfa i hi; omega))⟩
    have c3 := hb4.cell 3 (v := .slice L.la m1.log.length L.lc) rfl
    have f3 := hb4.free 3
    have hcs := Chg.cell1 w4 w.heap.size 3 (.slice a4 (m1.log.length + bn) c4)
    have hbn' : (m1.log ++ b).length = m1.log.length + bn := by rw [List.length_append, HBL.out]
    have HBN := hide hbn'; clear hbn'
    have hlog : BS w4 a4 (m1.log.length + bn) c4 (m1.log ++ b) := by rw [← bcells_append] at hr4; exact BS.own hr4
    have hrl := hS.ref.chg0 h3
    have hold : RefAt w4 (GG w G) { m1 with log := [] } { L with la := none, lc := 0 } := by
      have hx := ((hO.chg0 h3).chg hc4 (fun k hk e => by have := hfa _ e; have := hG k hk; omega)).mono (G' := GG w G) (fun k hk => .inl hk)
      exact { hx with log := BS.nil' _, logG := (fun b hb _ => by cases hb) }
    have hSE : DoS w (w4.setCell ⟨w.heap.size, 3, none⟩ (.slice a4 (m1.log.length + bn) c4)) G { m1 with log := m1.log ++ b } { L with la := a4, lc := c4 } :=
      ⟨by have := hb4.set 3 (.slice a4 (m1.log.length + bn) c4); unfold rcells; simp only [HBN.out]; exact this, { hold.box hG hcs (fun k hk => .inl hk) with
        log := by simp only [HBN.out]; exact hlog.chg hcs (fun b hb e => by have := hfa4 b hb; have : b.block = w.heap.size := e; omega)
        logG := fun b hb _ => .inr (hfa4 b hb) }⟩
    clear hS hS3 hr4 hc4 hat4 hb4 hold hlog
    have HB := hide (And.intro hSE.box.blk hSE.box.size)
    clear HR
    obtain ⟨cs, hr1, hr2⟩ := hSE.box.res
    have HR := hide (And.intro hr1 hr2); clear hr1 hr2
    have HFF := hide HF.out.1; clear HF
    go_wp2_with (first | (refine wpList_ldR rfl (.tmp 4) rfl w.heap.size rfl _ HB.out.1 HB.out.2 ?_) | (refine wpList_stR rfl (.tmp 8) (.tmp 167) rfl (w.heap.size + 1) rfl cs _ rfl HR.out.1 HR.out.2 rfl (rcells_one _ _) ?_))
    rw [HFF.out (by first | rfl | trivial)]
    exact hSE.box.fin hG rfl rfl rfl hSE.ref
end Go.Proofs.Ythgejjlhfdegeaa
