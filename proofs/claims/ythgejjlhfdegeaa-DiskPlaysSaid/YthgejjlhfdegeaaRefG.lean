/- The reference's device: Sync, Write. -/
import Derived.Test.YthgejjlhfdegeaaRefF
import Derived.Deep.RegionLawGrows
namespace Go.Proofs.Ythgejjlhfdegeaa
open Go.RowKit Go.MapKept

theorem own_form {w : World} {base : Nat} {e : TypeId} {size : Nat} {v : Value} {n : Nat} {xs : List Value} (h : w.ownsRow base e size v n xs) (hn : 0 < n) : ∃ g c, v = .slice (some ⟨g, 0, none⟩) n c ∧ base ≤ g := by
  rcases h.2 with ⟨_, h0⟩ | ⟨g, cap, cur, hv, hb, _⟩
  · omega
  · exact ⟨g, cap, hv, hb⟩
theorem wcells_snoc (ws : List (Nat × List UInt8)) (vs : List Value) (k : Nat) (b : List UInt8) (v : Value) (h : vs.length = ws.length) : wcells (ws ++ [(k, b)]) (vs ++ [v]) = wcells ws vs ++ [.int .i64 k, v] := by
  unfold wcells
  rw [List.zip_append h.symm, List.flatMap_append]
  rfl
theorem infoWrR : (Try.prog.info? 50).map (fun i => (i.zero, i.size, i.bytes)) = some (some (.agg #[.int .i64 0, .slice none 0 0]), 2, 32) := by kernel_rfl

set_option linter.unusedSimpArgs false
set_option maxHeartbeats 2000000 in
set_option maxRecDepth 100000 in
theorem doR_sync {w : World} {G : Nat → Prop} {m : DM} {L : RL} (h : RefAt w G m L) (hG : Olds w G) (hok : m.Ok) (hm : m.dead = false) (n : Int) (ba : Option Addr) (bn bc : Nat) (hwl : m.waiting.length ≤ 4611686018427387904) :
    Calls Try.prog 32 #[.agg (rcells m L), .int .i64 1, .int .i64 n, .slice ba bn bc] w (DoR w G (m.sync)) := by
  have HROW := hide (fun m1 w1 (e : m1 = m.count.1) hc1 => DoS.row (m := m) (m1 := m1) (w1 := w1) (e ▸ h.count) hG hc1)
  have HSP := hide (spend_calls m L ((w.alloc (.cells (rcells m L) 52)).alloc (.cells zcs 52)) ⟨hok.fuse.2, hok.fuse.1⟩)
  have HOK := hide hok.count
  obtain ⟨s1, s2, s3, s4, s5, s6, s7, s8⟩ := DM.count_same m
  have HF : Hid ((m.count.2 = true → m.sync = (m.count.1.settledM, 0)) ∧ (m.count.2 = false → m.sync = (m.count.1, 9))) := by
    constructor <;> intro hcc <;> simp [DM.sync, DM.settledM, hm, hcc]
  have hwl1 : m.count.1.waiting.length ≤ 4611686018427387904 := by rw [s3]; exact hwl
  clear s1 s2 s3 s4 s5 s6 s7 s8
  clear h
  obtain ⟨lit, hlit⟩ : ∃ lit, lit = rcells m L := ⟨_, rfl⟩
  have h2 := hlit
  unfold rcells at h2
  rw [hm] at h2
  rw [← hlit] at HSP ⊢
  subst h2
  have HLIT := hide hlit; clear hlit
  generalize m.waiting.length = n1 at *; generalize m.base.length = n2 at *; generalize m.log.length = n3 at *; generalize m.mark.length = n4 at *; generalize m.tail.length = n5 at *; generalize m.torn.isSome = n6 at *
  go_enter Try.func32, Try.ntmps32
  go_wp2_with fail
  refine HSP.out.mono ?_
  rintro e w1 ⟨rfl, hc1⟩
  obtain ⟨hD1, hS, hO⟩ := HROW.out _ w1 rfl (by rw [← HLIT.out]; exact hc1)
  have HBOX := hide (And.intro hD1.blk hD1.size)
  generalize m.count.2 = okb at *
  generalize m.count.1 = m1 at *
  go_wp2_with (first | (refine wpList_stR rfl (.tmp 4) (.tmp 81) rfl w.heap.size rfl _ _ rfl HBOX.out.1 HBOX.out.2 rfl (rcells_one _ _) (Hid.out ?_)))
  refine hide ?_
  have hch2 : Chg NoB w (w1.setRow w.heap.size (rcells m1 L)) := hS.box.chg
  generalize w1.setRow w.heap.size (rcells m1 L) = w2 at hS hO hch2 ⊢
  clear HROW HSP HLIT HBOX hD1 hc1
  have hsz2 : w.heap.size + 2 ≤ w2.heap.size := hS.box.lt
  obtain ⟨cs, hr1, hr2⟩ := hS.box.res
  have HR := hide (And.intro hr1 hr2); clear hr1 hr2
  cases okb
  · have HB := hide (And.intro hS.box.blk hS.box.size)
    have HFF := hide HF.out.2; clear HF
    go_wp2_with (first | (refine wpList_ldR rfl (.tmp 4) rfl w.heap.size rfl _ HB.out.1 HB.out.2 ?_) | (refine wpList_stR rfl (.tmp 8) (.tmp 98) rfl (w.heap.size + 1) rfl cs _ rfl HR.out.1 HR.out.2 rfl (rcells_one _ _) ?_))
    rw [HFF.out (by first | rfl | trivial)]
    exact hS.box.fin hG rfl rfl rfl hS.ref
  · have HSC := hide (settle_calls hS.ref HOK.out hwl1)
    have HB := hide (And.intro hS.box.blk hS.box.size)
    go_wp2_with (first | (refine wpList_ldR rfl (.tmp 4) rfl w.heap.size rfl _ HB.out.1 HB.out.2 ?_))
    refine HSC.out.mono ?_
    rintro e w3 ⟨ba', bc', pv', rfl, hrow, hc3⟩
    have href := (hS.ref.settled hc3 hrow).mono (G' := GG w G) (fun k hk => hk.elim id (fun h => .inr (by omega)))
    have hb3 := hS.box.same hc3
    have HB3 := hide (And.intro hb3.blk hb3.size)
    clear HB HSC hrow
    go_wp2_with (first | (refine wpList_stR rfl (.tmp 4) (.tmp 121) rfl w.heap.size rfl _ _ rfl HB3.out.1 HB3.out.2 rfl (rcells_one _ _) (Hid.out ?_)))
    refine hide ?_
    try go_frame
    have hSE : DoS w (w3.setRow w.heap.size (rcells m1.settledM (L.settled ba' bc' pv'))) G m1.settledM (L.settled ba' bc' pv') := ⟨hb3.setRow _ rfl, href.box hG (Chg.setRow1 _ _ _) (fun k hk => .inl hk)⟩
    generalize w3.setRow w.heap.size (rcells m1.settledM (L.settled ba' bc' pv')) = w4 at hSE ⊢
    clear hS hb3 HB3 href
    have HB := hide (And.intro hSE.box.blk hSE.box.size)
    clear HR
    obtain ⟨cs, hr1, hr2⟩ := hSE.box.res
    have HR := hide (And.intro hr1 hr2); clear hr1 hr2
    have HFF := hide HF.out.1; clear HF
    go_wp2_with (first | (refine wpList_ldR rfl (.tmp 4) rfl w.heap.size rfl _ HB.out.1 HB.out.2 ?_) | (refine wpList_stR rfl (.tmp 8) (.tmp 167) rfl (w.heap.size + 1) rfl cs _ rfl HR.out.1 HR.out.2 rfl (rcells_one _ _) ?_))
    rw [HFF.out (by first | rfl | trivial)]
    exact hSE.box.fin hG rfl rfl rfl hSE.ref
set_option maxHeartbeats 2000000 in
set_option maxRecDepth 100000 in
theorem doR_write {w : World} {G : Nat → Prop} {m : DM} {L : RL} (h : RefAt w G m L) (hG : Olds w G) (hok : m.Ok) (hm : m.dead = false) (n : Int) (ba : Option Addr) (bn bc : Nat) (h0 : ¬ n < 0) (h1 : ¬ (m.base.length : Int) ≤ n) (b : List UInt8) (hb : BS w ba bn bc b) (h5 : bn = 512) (hcnt : (m.waiting.length + 1) * 32 ≤ 140737488355328) :
    Calls Try.prog 32 #[.agg (rcells m L), .int .i64 0, .int .i64 n, .slice ba bn bc] w (DoR w G (m.write n b)) := by
  have HROW := hide (fun m1 w1 (e : m1 = m.count.1) hc1 => DoS.row (m := m) (m1 := m1) (w1 := w1) (e ▸ h.count) hG hc1)
  have HSP := hide (spend_calls m L ((w.alloc (.cells (rcells m L) 52)).alloc (.cells zcs 52)) ⟨hok.fuse.2, hok.fuse.1⟩)
  have HOK := hide hok.count
  obtain ⟨s1, s2, s3, s4, s5, s6, s7, s8⟩ := DM.count_same m
  have hbl := hb.len
  have hhas : m.has n = true := by simp [DM.has]; omega
  have HF : Hid ((m.count.2 = true → m.write n b = ({ m.count.1 with waiting := m.count.1.waiting ++ [(n.toNat, b)] }, 0)) ∧ (m.count.2 = false → m.write n b = ({ m.count.1 with torn := some (n.toNat, b) }, 9))) := by
    constructor <;> intro hcc <;> simp [DM.write, hm, hcc, hhas, show b.length = 512 by omega]
  have HBS := hide hb
  have hb5 : b.length = 512 := by omega
  have HBL := hide hb5; clear hb hbl hb5 hhas
  subst h5
  obtain ⟨k, rfl⟩ := Int.eq_ofNat_of_zero_le (show 0 ≤ n by omega)
  rw [Int.toNat_natCast] at HF
  have hcnt1 : (m.count.1.waiting.length + 1) * 32 ≤ 140737488355328 := by rw [s3]; exact hcnt
  obtain ⟨i0, hi, hz0, hz1, hz2⟩ := info_parts infoWrR
  clear s1 s2 s3 s4 s5 s6 s7 s8
  clear h
  obtain ⟨lit, hlit⟩ : ∃ lit, lit = rcells m L := ⟨_, rfl⟩
  have h2 := hlit
  unfold rcells at h2
  rw [hm] at h2
  rw [← hlit] at HSP ⊢
  subst h2
  have HLIT := hide hlit; clear hlit
  generalize m.waiting.length = n1 at *; generalize m.base.length = n2 at *; generalize m.log.length = n3 at *; generalize m.mark.length = n4 at *; generalize m.tail.length = n5 at *; generalize m.torn.isSome = n6 at *
  go_enter Try.func32, Try.ntmps32
  go_wp2_with fail
  refine HSP.out.mono ?_
  rintro e w1 ⟨rfl, hc1⟩
  obtain ⟨hD1, hS, hO⟩ := HROW.out _ w1 rfl (by rw [← HLIT.out]; exact hc1)
  have HBOX := hide (And.intro hD1.blk hD1.size)
  generalize m.count.2 = okb at *
  generalize m.count.1 = m1 at *
  go_wp2_with (first | (refine wpList_stR rfl (.tmp 4) (.tmp 81) rfl w.heap.size rfl _ _ rfl HBOX.out.1 HBOX.out.2 rfl (rcells_one _ _) (Hid.out ?_)))
  refine hide ?_
  have hch2 : Chg NoB w (w1.setRow w.heap.size (rcells m1 L)) := hS.box.chg
  generalize w1.setRow w.heap.size (rcells m1 L) = w2 at hS hO hch2 ⊢
  clear HROW HSP HLIT HBOX hD1 hc1
  have hsz2 : w.heap.size + 2 ≤ w2.heap.size := hS.box.lt
  obtain ⟨cs, hr1, hr2⟩ := hS.box.res
  have HR := hide (And.intro hr1 hr2); clear hr1 hr2
  cases okb
  · have hB2 := HBS.out.chg0 hch2
    have c12 := hS.box.cell 12 (v := .bool m1.torn.isSome) rfl
    have f12 := hS.box.free 12
    have hb3 := hS.box.set 12 (.bool true)
    have hcs0 := Chg.cell1 w2 w.heap.size 12 (.bool true)
    have hB3 : BS (w2.setCell ⟨w.heap.size, 12, none⟩ (.bool true)) ba 512 bc b := hB2.chgw hcs0 (fun x hx hp e => by have := HBS.out.lt hp x hx; have : x.block = w.heap.size := e; omega)
    go_wp2_with fail
    refine (copied_calls _ _ _ b _ hB3 (by omega)).mono ?_
    rintro e w3 ⟨a3, c3, rfl, h2, h3, h4⟩
    rw [HBL.out] at h2 ⊢
    have hb4 := hb3.same h3
    have HH2 := hide h2; clear h2
    have c9 := hb4.cell 9 (v := .int .i64 L.lp) rfl
    have c10 := hb4.cell 10 (v := .slice L.ka L.kn L.kc) rfl
    have f9 := hb4.free 9
    have f10 := hb4.free 10
    have hcs := Chg.cell1 w3 w.heap.size 9 (.int .i64 k)
    have hcs2 := Chg.cell1 (w3.setCell ⟨w.heap.size, 9, none⟩ (.int .i64 k)) w.heap.size 10 (.slice a3 512 c3)
    have g10 : (w3.setCell ⟨w.heap.size, 9, none⟩ (.int .i64 k)).cell? ⟨w.heap.size, 10, none⟩ = some (.slice L.ka L.kn L.kc) := (hb4.set 9 _).cell 10 rfl
    have k10 : (w3.setCell ⟨w.heap.size, 9, none⟩ (.int .i64 k)).frozen? ⟨w.heap.size, 10, none⟩ = false := (hb4.set 9 _).free 10
    have hSE : DoS w ((w3.setCell ⟨w.heap.size, 9, none⟩ (.int .i64 k)).setCell ⟨w.heap.size, 10, none⟩ (.slice a3 512 c3)) G { m1 with torn := some (k, b) } { L with lp := k, ka := a3, kn := 512, kc := c3 } :=
      ⟨(hb4.set 9 (.int .i64 k)).set 10 (.slice a3 512 c3), { ((hS.ref.box hG hcs0 (fun k hk => .inl hk)).chg0 h3).box hG (hcs.trans hcs2) (fun k hk => .inl hk) with
        torn := fun p b' hpb => by
          simp only [Option.some.injEq, Prod.mk.injEq] at hpb
          obtain ⟨rfl, rfl⟩ := hpb
          refine ⟨rfl, a3, c3, by rw [HBL.out], ?_, fun b hb => .inr (by have := h4 b hb; simp at this; omega)⟩
          rw [HBL.out]
          exact (BS.own HH2.out).chg (hcs.trans hcs2) (fun b hb e => by have := h4 b hb; have : b.block = w.heap.size := e; simp at *; omega) }⟩
    clear hb3 hb4 g10 k10
    have HB := hide (And.intro hSE.box.blk hSE.box.size)
    clear HR
    obtain ⟨cs, hr1, hr2⟩ := hSE.box.res
    have HR := hide (And.intro hr1 hr2); clear hr1 hr2
    have HFF := hide HF.out.2; clear HF
    go_wp2_with (first | (refine wpList_ldR rfl (.tmp 4) rfl w.heap.size rfl _ HB.out.1 HB.out.2 ?_) | (refine wpList_stR rfl (.tmp 8) (.tmp 98) rfl (w.heap.size + 1) rfl cs _ rfl HR.out.1 HR.out.2 rfl (rcells_one _ _) ?_))
    rw [HFF.out (by first | rfl | trivial)]
    exact hSE.box.fin hG rfl rfl rfl hSE.ref
  · have hB2 := HBS.out.chg0 hch2
    have HB2 := hide (hB2.chg0 (Chg.drew NoB w2)); clear hB2
    have c1 := hS.box.cell 1 (v := .slice L.wa m1.waiting.length L.wc) rfl
    have HKEEP := hide (fun w' (hc : Chg NoB w2 w') => (hS.box.same hc).cell 1 (v := .slice L.wa m1.waiting.length L.wc) rfl)
    have q1 : (m1.waiting.length : Int) ≤ (L.wc : Int) := by have := hS.ref.wait.cap; omega
    have HNO : Hid (L.wa = none → m1.waiting.length = 0 ∧ m1.waiting.length = 0) := fun e => by have := hS.ref.wait.nil e; have := hS.ref.wait.cap; omega
    have HWL := hide hS.ref.wait.len
    have HWC := hide (fun w' (hc : Chg NoB w2 w') => (hS.ref.wait.chg hc (fun _ _ f => f)).cell)
    go_wp2_with fail
    refine AnyM.region (S := fun w' : World => w'.cell? ⟨w.heap.size, 1, none⟩ = some (.slice L.wa m1.waiting.length L.wc)) (late := fun i => i == 16) (by kernel_rfl) ?_
    have hHeld : (fun w' : World => w'.cell? ⟨w.heap.size, 1, none⟩ = some (.slice L.wa m1.waiting.length L.wc)) _ := HKEEP.out _ (Chg.drew _ _)
    refine AnyM.take (i := 0) (v := ?v0) rfl (by kernel_rfl) (by kernel_rfl) rfl (by kernel_rfl) (by kernel_rfl) (fun _ _ _ h => h) (Or.inl ⟨by rfl, ?y0⟩) hHeld ?r0
    case y0 => (intro w hSw; (try dsimp only at hSw); go_simp; try with_reducible rfl)
    try simp only [Act.put, List.setIfInBounds_toArray, List.set_cons_zero, List.set_cons_succ, List.getElem_cons_zero, List.getElem_cons_succ, List.getElem_toArray]
    refine AnyM.take (i := 1) (v := ?v1) rfl (by kernel_rfl) (by kernel_rfl) rfl (by kernel_rfl) (by kernel_rfl) (fun _ _ _ h => h) (Or.inl ⟨by rfl, ?y1⟩) hHeld ?r1
    case y1 => (intro w hSw; (try dsimp only at hSw); go_simp; try with_reducible rfl)
    try simp only [Act.put, List.setIfInBounds_toArray, List.set_cons_zero, List.set_cons_succ, List.getElem_cons_zero, List.getElem_cons_succ, List.getElem_toArray]
    refine AnyM.take (i := 2) (v := ?v2) rfl (by kernel_rfl) (by kernel_rfl) rfl (by kernel_rfl) (by kernel_rfl) (fun _ _ _ h => h) (Or.inl ⟨by rfl, ?y2⟩) hHeld ?r2
    case y2 => (intro w hSw; (try dsimp only at hSw); go_simp; try with_reducible rfl)
    try simp only [Act.put, List.setIfInBounds_toArray, List.set_cons_zero, List.set_cons_succ, List.getElem_cons_zero, List.getElem_cons_succ, List.getElem_toArray]
    refine AnyM.take (i := 3) (v := ?v3) rfl (by kernel_rfl) (by kernel_rfl) rfl (by kernel_rfl) (by kernel_rfl) (fun _ _ _ h => h) (Or.inl ⟨by rfl, ?y3⟩) hHeld ?r3
    case y3 => (intro w hSw; (try dsimp only at hSw); go_simp; try with_reducible rfl)
    try simp only [Act.put, List.setIfInBounds_toArray, List.set_cons_zero, List.set_cons_succ, List.getElem_cons_zero, List.getElem_cons_succ, List.getElem_toArray]
    refine AnyM.take (i := 4) (v := ?v4) rfl (by kernel_rfl) (by kernel_rfl) rfl (by kernel_rfl) (by kernel_rfl) (fun _ _ _ h => h) (Or.inl ⟨by rfl, ?y4⟩) hHeld ?r4
    case y4 => (intro w hSw; (try dsimp only at hSw); go_simp; try with_reducible rfl)
    try simp only [Act.put, List.setIfInBounds_toArray, List.set_cons_zero, List.set_cons_succ, List.getElem_cons_zero, List.getElem_cons_succ, List.getElem_toArray]
    refine AnyM.take (i := 5) (v := ?v5) rfl (by kernel_rfl) (by kernel_rfl) rfl (by kernel_rfl) (by kernel_rfl) (fun _ _ _ h => h) (Or.inl ⟨by rfl, ?y5⟩) hHeld ?r5
    case y5 => (intro w hSw; (try dsimp only at hSw); go_simp; try with_reducible rfl)
    try simp only [Act.put, List.setIfInBounds_toArray, List.set_cons_zero, List.set_cons_succ, List.getElem_cons_zero, List.getElem_cons_succ, List.getElem_toArray]
    refine AnyM.take (i := 6) (v := ?v6) rfl (by kernel_rfl) (by kernel_rfl) rfl (by kernel_rfl) (by kernel_rfl) (fun _ _ _ h => h) (Or.inl ⟨by rfl, ?y6⟩) hHeld ?r6
    case y6 => (intro w hSw; (try dsimp only at hSw); go_simp; try with_reducible rfl)
    try simp only [Act.put, List.setIfInBounds_toArray, List.set_cons_zero, List.set_cons_succ, List.getElem_cons_zero, List.getElem_cons_succ, List.getElem_toArray]
    refine AnyM.take (i := 7) (v := ?v7) rfl (by kernel_rfl) (by kernel_rfl) rfl (by kernel_rfl) (by kernel_rfl) (fun _ _ _ h => h) (Or.inl ⟨by rfl, ?y7⟩) hHeld ?r7
    case y7 => (intro w hSw; (try dsimp only at hSw); go_simp; try with_reducible rfl)
    try simp only [Act.put, List.setIfInBounds_toArray, List.set_cons_zero, List.set_cons_succ, List.getElem_cons_zero, List.getElem_cons_succ, List.getElem_toArray]
    refine AnyM.take (i := 8) (v := ?v8) rfl (by kernel_rfl) (by kernel_rfl) rfl (by kernel_rfl) (by kernel_rfl) (fun _ _ _ h => h) (Or.inl ⟨by rfl, ?y8⟩) hHeld ?r8
    case y8 => (intro w hSw; (try dsimp only at hSw); go_simp; try with_reducible rfl)
    try simp only [Act.put, List.setIfInBounds_toArray, List.set_cons_zero, List.set_cons_succ, List.getElem_cons_zero, List.getElem_cons_succ, List.getElem_toArray]
    refine AnyM.take (i := 9) (v := ?v9) rfl (by kernel_rfl) (by kernel_rfl) rfl (by kernel_rfl) (by kernel_rfl) (fun _ _ _ h => h) (Or.inl ⟨by rfl, ?y9⟩) hHeld ?r9
    case y9 => (intro w hSw; (try dsimp only at hSw); go_simp; try with_reducible rfl)
    try simp only [Act.put, List.setIfInBounds_toArray, List.set_cons_zero, List.set_cons_succ, List.getElem_cons_zero, List.getElem_cons_succ, List.getElem_toArray]
    refine AnyM.take (i := 10) (v := ?v10) rfl (by kernel_rfl) (by kernel_rfl) rfl (by kernel_rfl) (by kernel_rfl) (fun _ _ _ h => h) (Or.inl ⟨by rfl, ?y10⟩) hHeld ?r10
    case y10 => (intro w hSw; (try dsimp only at hSw); go_simp; try with_reducible rfl)
    try simp only [Act.put, List.setIfInBounds_toArray, List.set_cons_zero, List.set_cons_succ, List.getElem_cons_zero, List.getElem_cons_succ, List.getElem_toArray]
    refine AnyM.step (i := 11) (by kernel_rfl) rfl rfl (fun K hK => ?_)
    go_simp
    refine (copied_calls _ _ _ b _ HB2.out (by omega)).mono ?_; rintro e w3 ⟨a3, c3, rfl, h2, h3, h4⟩; rw [HBL.out] at h2 ⊢; have HH2 := hide h2; clear h2
    clear hHeld
    refine hK.out _ _ (by first | exact HKEEP.out _ (Chg.drew _ _) | exact HKEEP.out _ ((Chg.drew _ _).trans h3) | exact HKEEP.out _ (((Chg.drew _ _).trans h3).trans (Chg.alloc _ _ _)) | exact HKEEP.out _ hg5) (fun hHeld => ?_)
    clear hK K
    try simp only [Act.put, List.setIfInBounds_toArray, List.set_cons_zero, List.set_cons_succ, List.getElem_cons_zero, List.getElem_cons_succ, List.getElem_toArray]
    refine AnyM.take (i := 12) (v := ?v12) rfl (by kernel_rfl) (by kernel_rfl) rfl (by kernel_rfl) (by kernel_rfl) (fun _ _ _ h => h) (Or.inl ⟨by rfl, ?y12⟩) hHeld ?r12
    case y12 => (intro w hSw; (try dsimp only at hSw); go_simp; try with_reducible rfl)
    try simp only [Act.put, List.setIfInBounds_toArray, List.set_cons_zero, List.set_cons_succ, List.getElem_cons_zero, List.getElem_cons_succ, List.getElem_toArray]
    refine AnyM.step (i := 13) (by kernel_rfl) rfl rfl (fun K hK => ?_)
    go_simp
    clear hHeld
    refine hK.out _ _ (by first | exact HKEEP.out _ (Chg.drew _ _) | exact HKEEP.out _ ((Chg.drew _ _).trans h3) | exact HKEEP.out _ (((Chg.drew _ _).trans h3).trans (Chg.alloc _ _ _)) | exact HKEEP.out _ hg5) (fun hHeld => ?_)
    clear hK K
    try simp only [Act.put, List.setIfInBounds_toArray, List.set_cons_zero, List.set_cons_succ, List.getElem_cons_zero, List.getElem_cons_succ, List.getElem_toArray]
    refine AnyM.step (i := 14) (by kernel_rfl) rfl rfl (fun K hK => ?_)
    refine step_append_grows rfl (.tmp 110) (.tmp 115) 48 rfl 50 i0 (.agg #[.int .i64 0, .slice none 0 0]) 2 32 Try.underlying48 hi hz0 hz1 hz2 rfl (by decide) L.wa m1.waiting.length m1.waiting.length (wcells m1.waiting L.wv) rfl HNO.out HWL.out (HWC.out _ (((Chg.drew NoB _).trans h3).trans (Chg.alloc _ _ _))) ⟨w3.heap.size, 0, none⟩ 1 1 [.int .i64 k, .slice a3 512 c3] rfl rfl (new_cells rfl [.int .i64 k, .slice a3 512 c3] _ _ rfl) (by intro u hu; simp at hu; rcases hu with rfl | rfl <;> rfl) (by omega) (by unfold maxLen; omega) (by omega) ?_; intro v' w5 hown hgr; obtain ⟨g5, c5, rfl, hg5b⟩ := own_form hown (by omega); have hg5 : Chg NoB w2 w5 := (((Chg.drew NoB _).trans h3).trans (Chg.alloc _ _ _)).trans (Chg.grown hgr (fun k e => by cases e)); have d1 := (hS.box.same hg5).cell 1 (v := .slice L.wa m1.waiting.length L.wc) rfl; have e1 := (hS.box.same hg5).free 1
    clear hHeld
    refine hK.out _ _ (by first | exact HKEEP.out _ (Chg.drew _ _) | exact HKEEP.out _ ((Chg.drew _ _).trans h3) | exact HKEEP.out _ (((Chg.drew _ _).trans h3).trans (Chg.alloc _ _ _)) | exact HKEEP.out _ hg5) (fun hHeld => ?_)
    clear hK K
    try simp only [Act.put, List.setIfInBounds_toArray, List.set_cons_zero, List.set_cons_succ, List.getElem_cons_zero, List.getElem_cons_succ, List.getElem_toArray]
    refine AnyM.take (i := 15) (v := ?v15) rfl (by kernel_rfl) (by kernel_rfl) rfl (by kernel_rfl) (by kernel_rfl) (fun _ _ _ h => h) (Or.inl ⟨by rfl, ?y15⟩) hHeld ?r15
    case y15 => (intro w hSw; (try dsimp only at hSw); go_simp; try with_reducible rfl)
    try simp only [Act.put, List.setIfInBounds_toArray, List.set_cons_zero, List.set_cons_succ, List.getElem_cons_zero, List.getElem_cons_succ, List.getElem_toArray]
    refine AnyM.last (i := 16) (by kernel_rfl) rfl rfl (fun K hK => ?_)
    go_simp
    refine hK.out _ _ ?_
    clear hK K
    try simp only [Act.put, List.setIfInBounds_toArray, List.set_cons_zero, List.set_cons_succ, List.getElem_cons_zero, List.getElem_cons_succ, List.getElem_toArray]
    refine AnyM.done (by kernel_rfl) ?_ _
    clear d1 e1
    have hbx := hS.box.same hg5
    have hcs := Chg.cell1 w5 w.heap.size 1 (.slice (some ⟨g5, 0, none⟩) (m1.waiting.length + 1) c5)
    have hchg := (Chg.alloc NoB w3 (.cells #[.int .i64 k, .slice a3 512 c3] 50)).trans (Chg.grown hgr (fun k e => by cases e))
    have hlen : (m1.waiting ++ [(k, b)]).length = m1.waiting.length + 1 := by simp
    have hsv : SV (w5.setCell ⟨w.heap.size, 1, none⟩ (.slice (some ⟨g5, 0, none⟩) (m1.waiting.length + 1) c5)) (GG w G) (.slice a3 512 c3) b := by
      refine ⟨a3, c3, by rw [HBL.out], ?_, fun b hb => .inr (by have := h4 b hb; simp at this; omega)⟩
      rw [HBL.out]
      exact ((BS.own HH2.out).chg0 hchg).chg hcs (fun b hb e => by have := h4 b hb; have : b.block = w.heap.size := e; simp at *; omega)
    have hwr := CR.own (ownsRow_chg hown hcs (fun b hb e => by cases hb; have : g5 = w.heap.size := e; simp at hg5b; have := h3.size; simp at this; omega))
    have hg5n : w.heap.size + 2 ≤ g5 := by simp at hg5b; have := h3.size; simp at this; omega
    have hSE : DoS w (w5.setCell ⟨w.heap.size, 1, none⟩ (.slice (some ⟨g5, 0, none⟩) (m1.waiting.length + 1) c5)) G { m1 with waiting := m1.waiting ++ [(k, b)] } { L with wa := some ⟨g5, 0, none⟩, wc := c5, wv := L.wv ++ [.slice a3 512 c3] } :=
      ⟨by have := hbx.set 1 (.slice (some ⟨g5, 0, none⟩) (m1.waiting.length + 1) c5); unfold rcells; simp only [hlen]; exact this, by
        have hr := (hS.ref.chg0 hg5).box hG hcs (fun k hk => .inl hk)
        exact { hr with
          wait := by simp only [hlen]; rw [wcells_snoc _ _ _ _ _ hr.wvl]; exact hwr
          wsv := fun i r hi => by
            rcases Nat.lt_or_ge i m1.waiting.length with h | h
            · rw [List.getElem?_append_left h] at hi
              obtain ⟨v, h1, h2⟩ := hr.wsv i r hi
              exact ⟨v, by rw [List.getElem?_append_left (by rw [hr.wvl]; exact h)]; exact h1, h2⟩
            · rw [List.getElem?_append_right h] at hi
              have h0 : i - m1.waiting.length = 0 := by
                rcases Nat.eq_zero_or_pos (i - m1.waiting.length) with h0 | h0
                · exact h0
                · rw [List.getElem?_eq_none (by simp; omega)] at hi; cases hi
              rw [h0] at hi
              simp only [List.getElem?_cons_zero, Option.some.injEq] at hi
              subst hi
              exact ⟨_, by rw [List.getElem?_append_right (by rw [hr.wvl]; exact h), hr.wvl, h0]; rfl, hsv⟩
          wvl := by simp [hr.wvl]
          waG := fun b hb _ => by cases hb; exact .inr hg5n }⟩
    clear hS hbx hwr hsv hlen hown hgr
    have HB := hide (And.intro hSE.box.blk hSE.box.size)
    clear HR
    obtain ⟨cs, hr1, hr2⟩ := hSE.box.res
    have HR := hide (And.intro hr1 hr2); clear hr1 hr2
    have HFF := hide HF.out.1; clear HF
    go_wp2_with (first | (refine wpList_ldR rfl (.tmp 4) rfl w.heap.size rfl _ HB.out.1 HB.out.2 ?_) | (refine wpList_stR rfl (.tmp 8) (.tmp 167) rfl (w.heap.size + 1) rfl cs _ rfl HR.out.1 HR.out.2 rfl (rcells_one _ _) ?_))
    rw [HFF.out (by first | rfl | trivial)]
    exact hSE.box.fin hG rfl rfl rfl hSE.ref


/-- Any operation. -/
theorem doR_calls {w : World} {G : Nat → Prop} {m : DM} {L : RL} (h : RefAt w G m L) (hG : Olds w G) (hok : m.Ok) (op n : Int) (h0 : 0 ≤ op) (h6 : op ≤ 6) (ba : Option Addr) (bn bc : Nat) (b : List UInt8) (hb : BS w ba bn bc b) (hcnt : (m.waiting.length + 1) * 32 ≤ 140737488355328) (hbn : bn ≤ maxLen - 16777216) :
    Calls Try.prog 32 #[.agg (rcells m L), .int .i64 op, .int .i64 n, .slice ba bn bc] w (DoR w G (m.ask op n b)) := by
  have hbl := hb.len
  have hrm := hok.room
  have hlg := hok.log
  cases hd : m.dead
  · obtain rfl | rfl | rfl | rfl | rfl | rfl | rfl : op = 0 ∨ op = 1 ∨ op = 2 ∨ op = 3 ∨ op = 4 ∨ op = 5 ∨ op = 6 := by omega
    · have e : m.ask 0 n b = m.write n b := by simp [DM.ask]
      rw [e]
      by_cases c1 : n < 0
      · have e : m.write n b = (m, 1) := by simp [DM.write, hd, DM.has]; omega
        rw [e]; exact doR_no0_neg h hd n ba bn bc c1
      by_cases c2 : (m.base.length : Int) ≤ n
      · have e : m.write n b = (m, 1) := by simp [DM.write, hd, DM.has]; omega
        rw [e]; exact doR_no0_big h hd n ba bn bc c1 c2
      by_cases c3 : bn = 512
      · exact doR_write h hG hok hd n ba bn bc c1 c2 b hb c3 hcnt
      · have e : m.write n b = (m, 1) := by simp [DM.write, hd, DM.has]; omega
        rw [e]; exact doR_no0_len h hd n ba bn bc c1 c2 (beq_eq_false_iff_ne.2 (by omega))
    · have e : m.ask 1 n b = m.sync := by simp [DM.ask]
      rw [e]; exact doR_sync h hG hok hd n ba bn bc (by omega)
    · have e : m.ask 2 n b = m.append b := by simp [DM.ask]
      rw [e]
      by_cases c1 : (m.room : Int) < (m.log.length : Int) + (bn : Int)
      · have e : m.append b = (m, 7) := by simp [DM.append, hd]; omega
        rw [e]; exact doR_no2 h hd n ba bn bc c1 (by unfold maxLen at hbn; omega)
      · exact doR_append h hG hok hd n ba bn bc c1 b hb
    · have e : m.ask 3 n b = m.force := by simp [DM.ask]
      rw [e]; exact doR_force h hG hok hd n ba bn bc
    · have e : m.ask 4 n b = m.cut n b := by simp [DM.ask]
      rw [e]
      by_cases c1 : n < 0
      · have e : m.cut n b = (m, 1) := by simp [DM.cut, hd]; omega
        rw [e]; exact doR_no4_neg h hd n ba bn bc c1
      by_cases c2 : (m.certain : Int) < n
      · have e : m.cut n b = (m, 1) := by simp [DM.cut, hd]; omega
        rw [e]; exact doR_no4_big h hd n ba bn bc c1 c2
      by_cases c3 : (64 : Int) < (bn : Int)
      · have e : m.cut n b = (m, 1) := by simp [DM.cut, hd]; omega
        rw [e]; exact doR_no4_len h hd n ba bn bc c1 c2 c3
      · exact doR_cut h hG hok hd n ba bn bc c1 c2 b hb c3
    · have e : m.ask 5 n b = m.trim n := by simp [DM.ask]
      rw [e]
      by_cases c1 : n < 0
      · have e : m.trim n = (m, 1) := by simp [DM.trim, hd]; omega
        rw [e]; exact doR_no5_neg h hd n ba bn bc c1
      by_cases c2 : (m.log.length : Int) < n
      · have e : m.trim n = (m, 1) := by simp [DM.trim, hd]; omega
        rw [e]; exact doR_no5_big h hd n ba bn bc c1 c2
      · exact doR_trim h hG hok hd n ba bn bc c1 c2
    · have e : m.ask 6 n b = m.setMark b := by simp [DM.ask]
      rw [e]
      by_cases c3 : (64 : Int) < (bn : Int)
      · have e : m.setMark b = (m, 1) := by simp [DM.setMark, hd]; omega
        rw [e]; exact doR_no6 h hd n ba bn bc c3
      · exact doR_mark h hG hok hd n ba bn bc b hb c3
  · have e : m.ask op n b = (m, 9) := by
      unfold DM.ask
      simp [DM.write, DM.sync, DM.append, DM.force, DM.cut, DM.trim, DM.setMark, hd]
    rw [e]; exact doR_dead h hd op n ba bn bc
end Go.Proofs.Ythgejjlhfdegeaa
