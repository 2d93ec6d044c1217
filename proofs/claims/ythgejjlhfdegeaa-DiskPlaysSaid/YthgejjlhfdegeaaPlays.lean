/- DiskPlays: the walk. -/
import Derived.Test.YthgejjlhfdegeaaFuse
import Derived.Test.YthgejjlhfdegeaaRefI
import Derived.Test.YthgejjlhfdegeaaLooks
import Derived.BigFrame
namespace Go.Proofs.Ythgejjlhfdegeaa
open Go.RowKit Go.MapKept
set_option linter.unusedSimpArgs false

/-- A device and the reference's, side by side. -/
structure PS (w : World) (sb bm : Nat) (m : DM) (L : RL) (F C G : Nat → Prop) (wr : World) : Prop where
  ds : DS w sb m F C wr
  box : wr.heap[bm]? = some (.cells (rcells m L) 52 (0, 0))
  far : ¬ F bm ∧ ¬ C bm ∧ w.heap.size ≤ bm
  ref : RefAt wr G m L
  sep : ∀ k, G k → k < wr.heap.size ∧ ¬ F k ∧ k ≠ bm
section
variable {w w1 w2 w3 : World} {sb bm : Nat} {m m2 : DM} {L L2 : RL} {F C G F2 C2 : Nat → Prop}
theorem PS.same (h : PS w sb bm m L F C G w1) (hc : Chg NoB w1 w2) : PS w sb bm m L F C G w2 :=
  ⟨h.ds.same hc, hc.blk h.box (fun f => f), h.far, h.ref.chg0 hc, fun k hk => ⟨Nat.lt_of_lt_of_le (h.sep k hk).1 hc.size, (h.sep k hk).2⟩⟩
theorem PS.lt (h : PS w sb bm m L F C G w1) : bm < w1.heap.size := heap_lt h.box
theorem PS.olds (h : PS w sb bm m L F C G w1) : Olds w1 G := fun k hk => (h.sep k hk).1
/-- The device has done something; the reference has not yet. -/
structure PH (w : World) (sb bm : Nat) (m : DM) (L : RL) (m2 : DM) (F C G : Nat → Prop) (wr : World) : Prop where
  ds : DS w sb m2 F C wr
  box : wr.heap[bm]? = some (.cells (rcells m L) 52 (0, 0))
  far : ¬ F bm ∧ ¬ C bm ∧ w.heap.size ≤ bm
  ref : RefAt wr G m L
  sep : ∀ k, G k → k < wr.heap.size ∧ ¬ F k ∧ k ≠ bm
theorem PS.dev (h : PS w sb bm m L F C G w1) (hd : Disk w2 sb m2 F2 C2) (ho : Own w1 F C w2 F2 C2) : PH w sb bm m L m2 F2 C2 G w2 := by
  have hl := h.lt
  exact ⟨h.ds.step hd ho, ho.chg.blk h.box h.far.1, ⟨fun f => (ho.f _ f).elim h.far.1 (fun e => by omega), fun f => (ho.c _ f).elim h.far.2.1 (fun e => by omega), h.far.2.2⟩,
    h.ref.chg ho.chg (fun k hk => (h.sep k hk).2.1), fun k hk => ⟨Nat.lt_of_lt_of_le (h.sep k hk).1 ho.chg.size, fun f => (ho.f _ f).elim (h.sep k hk).2.1 (fun e => by have := (h.sep k hk).1; omega), (h.sep k hk).2.2⟩⟩
theorem PH.same (h : PH w sb bm m L m2 F C G w1) (hc : Chg NoB w1 w2) : PH w sb bm m L m2 F C G w2 :=
  ⟨h.ds.same hc, hc.blk h.box (fun f => f), h.far, h.ref.chg0 hc, fun k hk => ⟨Nat.lt_of_lt_of_le (h.sep k hk).1 hc.size, (h.sep k hk).2⟩⟩
theorem PH.olds (h : PH w sb bm m L m2 F C G w1) : Olds w1 G := fun k hk => (h.sep k hk).1
/-- The reference has done it, too: its box holds what it has told. -/
theorem PH.done (h : PH w sb bm m L m2 F C G w1) (hok : m2.Ok) {L2 : RL} {G1 : Nat → Prop} (hG1 : ∀ k, G1 k → G k ∨ w1.heap.size ≤ k) (hc : Chg NoB w1 w2) (hr : RefAt w2 G1 m2 L2) : PS w sb bm m2 L2 F C (fun k => G1 k ∧ k < w2.heap.size) (w2.setRow bm (rcells m2 L2)) := by
  have h2 := h.same hc
  have hbl : bm < w1.heap.size := heap_lt h.box
  have hcs := Chg.setRow1 w2 bm (rcells m2 L2)
  have hne : ∀ k, (G1 k ∧ k < w2.heap.size) → ¬ F k ∧ k ≠ bm := fun k hk => (hG1 k hk.1).elim (fun g => (h.sep k g).2) (fun g => ⟨fun f => by have := h.ds.dev.lt _ f; omega, by omega⟩)
  refine ⟨⟨h2.ds.dev.chg hcs (fun k hk e => h.far.1 (e ▸ hk)) (fun k hk e => h.far.2.1 (e ▸ hk)), h2.ds.own, h2.ds.chg.trans' hcs (fun i hi => .inr (by have : i = bm := hi; have := h.far.2.2; omega))⟩, setRow_heap _ _ _ _ _ _ h2.box, h.far, (hr.held hok).chg hcs (fun k hk e => (hne k hk).2 e), fun k hk => ⟨by have := hk.2; simpa using this, hne k hk⟩⟩
end

theorem DM.count_wait (m : DM) : m.count.1.waiting = m.waiting := (DM.count_same m).2.2.1
theorem DM.ask_waiting (m : DM) (op n : Int) (b : List UInt8) : (m.ask op n b).1.waiting.length ≤ m.waiting.length + 1 := by
  have hc := m.count_wait
  unfold DM.ask
  split
  · unfold DM.write; repeat' split
    all_goals simp [hc]
  split
  · unfold DM.sync; repeat' split
    all_goals simp [hc]
  split
  · unfold DM.append; repeat' split
    all_goals simp [hc]
  split
  · unfold DM.force; repeat' split
    all_goals simp [hc]
  split
  · unfold DM.cut; repeat' split
    all_goals simp [hc]
  split
  · unfold DM.trim; repeat' split
    all_goals simp [hc]
  · unfold DM.setMark; repeat' split
    all_goals simp [hc]
theorem fresh_cells (ba : Option Addr) (bc : Nat) (pv : List Value) (pn rn : Nat) : newCells ba pn bc rn = rcells (DM.fresh pn rn) (RL.fresh ba bc pv) := by
  simp [newCells, rcells, DM.fresh, RL.fresh]
theorem NewRow.ref {w0 w2 : World} {pn bc : Nat} (rn : Nat) {ba : Option Addr} {pv : List Value} (h : NewRow (fun _ => zeros512) w0 w2 pn ba bc pv) : RefAt w2 (fun k => w0.heap.size + 2 ≤ k) (DM.fresh pn rn) (RL.fresh ba bc pv) where
  base := by
    have e : (DM.fresh pn rn).base.length = pn := by simp [DM.fresh]
    rw [e]; exact CR.own h.row
  page i p hp := by
    simp only [DM.fresh, List.getElem?_replicate] at hp
    split at hp
    · rename_i hi
      simp only [Option.some.injEq] at hp
      subst hp
      obtain ⟨v, h1, h2⟩ := h.page i hi
      exact ⟨v, h1, h2.mono fun k hk => hk.1⟩
    · cases hp
  baG b hb := h.far b hb
  wait := CR.nil' _ _
  wsv i r hr := by simp [DM.fresh] at hr
  wvl := rfl
  waG b hb _ := by cases hb
  log := BS.nil' _
  logG b hb _ := by cases hb
  mark := BS.nil' _
  markG b hb _ := by cases hb
  tail := BS.nil' _
  tailG b hb _ := by cases hb
  torn p b hb := by cases hb

theorem PH.fused {w w1 : World} {sb bm : Nat} {m : DM} {L : RL} {F C G : Nat → Prop} (n : Int) (h : PH w sb bm m L (m.setFuse n) F C G w1) : PS w sb bm (m.setFuse n) L F C G (w1.setCell ⟨bm, 6, none⟩ (.int .i64 (max (-1) n))) := by
  have hcs := Chg.cell1 w1 bm 6 (.int .i64 (max (-1) n))
  exact ⟨⟨h.ds.dev.chg hcs (fun k hk e => h.far.1 (e ▸ hk)) (fun k hk e => h.far.2.1 (e ▸ hk)), h.ds.own, h.ds.chg.trans' hcs (fun i hi => .inr (by have : i = bm := hi; have := h.far.2.2; omega))⟩, setCell_blk h.box _, h.far,
    { h.ref.chg hcs (fun k hk e => (h.sep k hk).2.2 e) with }, fun k hk => ⟨by have := (h.sep k hk).1; simpa [World.setCell] using this, (h.sep k hk).2⟩⟩
theorem wpList_ldRw {ops : Array Oper} {rest : List Oper} {o : Oper} {a : Act} {w : World} {Q : Exit → Act → World → Prop} (hgd : Region.wanted o (yielded ops a.tmps) = true) (x : Operand) (ho : o.op = .load 52 x) (g : Nat) (hx : a.eval x = .pointer (some ⟨g, 0, none⟩)) (cs : Array Value) (hg : w.heap[g]? = some (.cells cs 52 (0, 0))) (hs : cs.size = 13)
    (h : wpList Try.prog ops Q rest (a.put o.dst (.agg cs)) w) : wpList Try.prog ops Q (o :: rest) a w :=
  Go.BigFrame.wpList_want hgd fun _ hK => wp_load_row _ x ho g hx _ cs _ _ hg Try.underlying52 rfl (by rw [hs]; exact infoRf) (hK _ _ h)
theorem conv_none (w : World) : (convert 28 9 (.slice none 0 0)).run Try.prog w = .ok (.string (strOf [])) w := conv_str (BS.nil' w)

set_option maxHeartbeats 8000000 in
set_option maxRecDepth 100000 in
theorem plays_walk (w : World) (pages room : Int) (aa : Option Addr) (an ac : Nat) (l : List Dd) (hds : Dds w aa an l) (han : an * 40 ≤ 140737488351232) (hmx : ∀ d ∈ l, d.k ≤ 140737488351232 ∧ d.n ≤ 9223372036854775807) :
    Calls Try.prog 9 #[.int .i64 pages, .int .i64 room, .slice aa an ac] w fun e w' => e = .returned (.bool true) ∧ Chg NoB w w' := by
  by_cases hbad : pages < 1 ∨ 65536 < pages ∨ room < 0 ∨ 16777216 < room
  · have HN := hide (new_no pages room w hbad)
    rcases (show pages < 1 ∨ (¬ pages < 1 ∧ 65536 < pages) ∨ (¬ pages < 1 ∧ ¬ 65536 < pages ∧ room < 0) ∨ (¬ pages < 1 ∧ ¬ 65536 < pages ∧ ¬ room < 0 ∧ 16777216 < room) by omega) with h | ⟨h0, h⟩ | ⟨h0, h1, h⟩ | ⟨h0, h1, h2, h⟩
    all_goals
      clear hbad
      go_enter Try.func9, Try.ntmps9
      go_wp2_with fail
      refine HN.out.mono ?_
      rintro e w1 ⟨rfl, rfl⟩
      go_wp2_with fail
      refine (awake_calls _).mono ?_
      rintro e w2 ⟨rfl, hc2⟩
      go_wp2_with fail
      go_ret
      exact ⟨by simp, hc2⟩
  have hb1 : ¬ pages < 1 := by omega
  have hb2 : ¬ 65536 < pages := by omega
  have hb3 : ¬ room < 0 := by omega
  have hb4 : ¬ 16777216 < room := by omega
  clear hbad
  obtain ⟨pn, rfl⟩ := Int.eq_ofNat_of_zero_le (show 0 ≤ pages by omega)
  obtain ⟨rn, rfl⟩ := Int.eq_ofNat_of_zero_le (show 0 ≤ room by omega)
  by_cases h300 : (300 : Int) < (pn : Int)
  · go_enter Try.func9, Try.ntmps9
    go_wp2_with fail
    refine (new_disk pn rn _ (by omega) (by omega) (by omega)).mono ?_
    rintro e w1 ⟨rfl, hD, hc1, -⟩
    go_wp2_with fail
    refine (awake_calls _).mono ?_
    rintro e w2 ⟨rfl, hc2⟩
    have hD2 := hD.chg0 hc2
    have hpl : (DM.fresh pn rn).base.length = pn := by simp [DM.fresh]
    have hrl : (DM.fresh pn rn).room = rn := rfl
    have HPL := hide hpl; have HRL := hide hrl; clear hpl hrl
    go_wp2_with fail
    refine (hD2.pages).mono ?_
    rw [HPL.out]
    rintro e w3 ⟨rfl, rfl⟩
    go_wp2_with fail
    refine (hD2.room).mono ?_
    rw [HRL.out]
    rintro e w3 ⟨rfl, rfl⟩
    go_wp2_with fail
    go_ret
    exact ⟨by simp, hc1.trans hc2⟩
  have h300' : (pn : Int) ≤ 300 := by omega
  go_enter Try.func9, Try.ntmps9
  go_wp2_with fail
  refine (new_disk pn rn _ (by omega) (by omega) (by omega)).mono ?_
  rintro e w1 ⟨rfl, hD, hc1, -⟩
  have hS : DS w (w.heap.size + 2) (DM.fresh pn rn) (onlyNew w.heap.size) NoB w1 := ⟨hD, fun k hk => by rcases hk with h | h | h <;> omega, hc1⟩
  have HF0 : Hid (∀ k, onlyNew w.heap.size k → k < w1.heap.size) := hide hD.lt
  generalize onlyNew w.heap.size = F1 at hS HF0
  clear hD hc1
  go_wp2_with fail
  refine (awake_calls _).mono ?_
  rintro e w2 ⟨rfl, hc2⟩
  have hS2 := hS.same hc2
  clear hS hc2 HF0
  go_wp2_with fail
  refine (newR_calls pn rn _ (by omega)).mono ?_
  rintro e w3 ⟨ba, bc, pv, rfl, hrow, hc3⟩
  have HBX := hide (heap_alloc_new w3 (.cells zcs 52))
  go_wp2_with (first | (refine wpList_stR rfl (.tmp 9) (.tmp 68) rfl w3.heap.size rfl zcs _ rfl HBX.out rfl rfl (newCells_one _ _ _ _) (Hid.out ?_)))
  refine hide ?_
  try go_frame
  rw [setRow_alloc, fresh_cells ba bc pv]
  clear HBX
  have hP : PS w (w.heap.size + 2) w3.heap.size (DM.fresh pn rn) (RL.fresh ba bc pv) F1 NoB (fun k => (w2.heap.size + 2 ≤ k) ∧ k < w3.heap.size) (w3.alloc (.cells (rcells (DM.fresh pn rn) (RL.fresh ba bc pv)) 52)) := by
    have h3 := hS2.same hc3
    have hlt := hS2.dev.lt
    exact ⟨h3.same (Chg.alloc _ _ _), heap_alloc_new w3 _, ⟨fun f => by have := hlt _ f; have := hc3.size; omega, fun f => f, Nat.le_trans hS2.chg.size hc3.size⟩, ((hrow.ref rn).held hS2.dev.ok).chg0 (Chg.alloc _ _ _), fun k hk => ⟨by have := hk.2; simp; omega, fun f => by have := hlt _ f; have := hk.1; omega, by have := hk.2; omega⟩⟩
  have hw0 : (DM.fresh pn rn).waiting.length ≤ 0 := Nat.le_refl _
  generalize (fun k => (w2.heap.size + 2 ≤ k) ∧ k < w3.heap.size) = G0 at hP
  generalize w3.alloc (.cells (rcells (DM.fresh pn rn) (RL.fresh ba bc pv)) 52) = w4 at hP ⊢
  generalize w3.heap.size = bm at hP ⊢
  generalize DM.fresh pn rn = m0 at hP hw0
  generalize RL.fresh ba bc pv = L0 at hP
  clear hrow hc3 hS2
  have HDS := hide hds; have HMX := hide hmx; clear hds hmx
  go_wp2_with fail
  go_loopw [7, 10] (fun dv v wr => ∃ (i sb : Nat) (m : DM) (L : RL) (F C G : Nat → Prop), i ≤ an ∧ v = .int .i64 i ∧ dv = .pointer (some ⟨sb, 0, none⟩) ∧ PS w sb bm m L F C G wr ∧ m.waiting.length ≤ i) (fun _ v _ => an - (intOf v).toNat)
  case atStart => exact ⟨0, _, m0, L0, F1, NoB, G0, by omega, rfl, rfl, hP, hw0⟩
  case round =>
    obtain ⟨i, sb, m, L, F, C, G, hi4, rfl, rfl, hPL, hwl⟩ := hrel
    clear hP hw0
    by_cases hlt : i < an
    · have hlt' : (i : Int) < (an : Int) := by omega
      have hil : i < l.length := by rw [← HDS.out.len]; exact hlt
      obtain ⟨gd, od, rfl, hat⟩ := HDS.out.at_ i l[i] (by simp [hil])
      obtain ⟨hdk, hdn⟩ := HMX.out l[i] (List.getElem_mem hil)
      have HOR : Hid (∀ F : Nat → Prop, (∀ k, F k → w.heap.size ≤ k) → ∀ b, l[i].a = some b → 0 < l[i].k → ¬ F b.block) := fun F h b hb hp hf => by have := h _ hf; have := hat.bs.lt hp b hb; omega
      have HOL : Hid (∀ b, l[i].a = some b → 0 < l[i].k → b.block < w.heap.size) := fun b hb hp => hat.bs.lt hp b hb
      have hat2 := hat.chg0 hPL.ds.chg
      have c0 := hat2.op
      have c1 := hat2.n
      have c2 := hat2.v
      have HAT := hide hat; clear hat hat2
      generalize l[i] = d at c0 c1 c2 HOR HOL HAT hdk hdn
      clear hil
      have hcx := Chg.alloc NoB wr (.cells #[.int .i64 d.op, .int .i64 d.n, .slice d.a d.k d.c] 42)
      have hPX := hPL.same hcx
      have hX := heap_alloc_new wr (.cells #[.int .i64 d.op, .int .i64 d.n, .slice d.a d.k d.c] 42)
      have hnF : ¬ F wr.heap.size := fun f => by have := hPL.ds.dev.lt _ f; omega
      have HPX := hide hPX; have HX := hide hX; have HCX := hide hcx
      have HNF := hide (And.intro hnF (Nat.le_trans hPL.ds.chg.size (Nat.le_refl _)))
      have hbm := hPL.lt
      clear hPX hX hcx hnF hPL
      by_cases h0 : 0 ≤ d.op
      · by_cases h6 : d.op ≤ 6
        · go_wp2_with fail
          generalize wr.alloc (.cells #[.int .i64 d.op, .int .i64 d.n, .slice d.a d.k d.c] 42) = w5 at HPX HX HCX ⊢
          have hcnt : (m.waiting.length + 1) * 32 ≤ 140737488355328 := by omega
          have HB5 := hide (HAT.out.bs.chg0 HPX.out.ds.chg)
          refine (ask_calls HPX.out.ds.dev d.op d.n d.a d.k d.c d.b HB5.out (HOR.out _ HPX.out.ds.own) HAT.out.max hcnt).mono ?_
          rintro e w6 ⟨rfl, F6, C6, hD6, ho6⟩
          have hH := HPX.out.dev hD6 ho6
          have hX6 := ho6.chg.blk HX.out HNF.out.1
          have hB6 := HB5.out.chgw ho6.chg (HOR.out _ HPX.out.ds.own)
          have hok6 := hH.ds.dev.ok
          have HDO := hide (doR_calls hH.ref hH.olds HPX.out.ds.dev.ok d.op d.n h0 h6 d.a d.k d.c d.b hB6 hcnt (by unfold maxLen; omega))
          have haw := m.ask_waiting d.op d.n d.b
          have x0 : w6.cell? ⟨wr.heap.size, 0, none⟩ = some (.int .i64 d.op) := by rw [cell_of_row w6 _ _ _ _ _ hX6]; rfl
          have x1 : w6.cell? ⟨wr.heap.size, 1, none⟩ = some (.int .i64 d.n) := by rw [cell_of_row w6 _ _ _ _ _ hX6]; rfl
          have x2 : w6.cell? ⟨wr.heap.size, 2, none⟩ = some (.slice d.a d.k d.c) := by rw [cell_of_row w6 _ _ _ _ _ hX6]; rfl
          have HBM := hide hH.box
          have HOK6 := hide hok6
          clear hX6 hB6 hD6 ho6 HB5 HPX hok6 hcnt
          generalize m.ask d.op d.n d.b = r at hH HDO haw HOK6 ⊢
          obtain ⟨mr, er⟩ := r
          simp only at hH haw HOK6
          go_wp2_with (first | (refine wpList_ldR rfl (.tmp 9) rfl bm rfl _ HBM.out (rcells_size _ _) ?_))
          refine HDO.out.mono ?_
          rintro e w7 ⟨L7, rfl, hr7, hc7⟩
          simp only at hr7 ⊢
          have HZ7 := hide (heap_alloc_new w7 (.cells zcs 52))
          go_wp2_with (first | (refine wpList_stR rfl (.tmp 13) (.tmp 127) rfl w7.heap.size rfl zcs _ rfl HZ7.out rfl rfl (rcells_one _ _) (Hid.out ?_)))
          refine hide ?_
          try go_frame
          rw [setRow_alloc]
          have hca := Chg.alloc NoB w7 (.cells (rcells mr L7) 52)
          have hD8 := hH.done HOK6.out (fun k hk => hk) (hc7.trans hca) (hr7.chg0 hca)
          have HY8 := hide (heap_alloc_new w7 (.cells (rcells mr L7) 52))
          have HB8 := hide ((hc7.trans hca).blk HBM.out (fun f => f))
          generalize w7.alloc (.cells (rcells mr L7) 52) = w8 at hD8 HY8 HB8 ⊢
          clear hca hc7 hr7 HZ7 HBM hH x0 x1 x2 HDO
          go_wp2_with (first | (refine wpList_ldR rfl (.tmp 13) rfl w7.heap.size rfl _ HY8.out (rcells_size _ _) ?_) | (refine wpList_stR rfl (.tmp 9) (.tmp 129) rfl bm rfl _ _ rfl HB8.out (rcells_size _ _) (rcells_size _ _) (rcells_one _ _) (Hid.out ?_)))
          refine hide ?_
          try go_frame
          generalize w8.setRow bm (rcells mr L7) = w9 at hD8 ⊢
          clear HY8 HB8
          go_wp2_with fail
          go_roundw
          case rel => exact ⟨i + 1, sb, mr, L7, F6, C6, _, by omega, by go_num, rfl, hD8, by omega⟩
          case measure => simp [intOf]; omega
        · by_cases h7 : d.op = 7
          · skip
            have e7 : (d.op == 7) = true := beq_iff_eq.2 h7
            clear h7
            go_wp2_with fail
            generalize wr.alloc (.cells #[.int .i64 d.op, .int .i64 d.n, .slice d.a d.k d.c] 42) = w5 at HPX HX HCX ⊢
            have hwl5 : m.waiting.length ≤ 4611686018427387904 := by omega
            have HOK := hide HPX.out.ds.dev.ok
            refine (HPX.out.ds.dev.read d.n).mono ?_
            have HRR := hide (fun w' (hc : Chg NoB w5 w') => readR_calls (HPX.out.ref.chg0 hc) d.n hwl5 HOK.out)
            generalize m.read d.n = r at HRR ⊢
            obtain ⟨p, er⟩ := r
            rintro e w6 hrp
            have hbr : ∃ ra rc, e = .returned (.tuple #[.slice ra p.length rc, .int .i64 er]) ∧ BS w6 ra p.length rc p ∧ Chg NoB w5 w6 := by
              rcases hrp with ⟨h0, rfl, rfl⟩ | ⟨h0, h1, rfl, rfl⟩
              · simp only at h0
                subst h0
                exact ⟨_, _, rfl, BS.newblock w5 p rfl, Chg.alloc _ _ _⟩
              · simp only at h1
                subst h1
                exact ⟨none, 0, rfl, BS.nil' _, Chg.refl _ _⟩
            obtain ⟨ra, rc, rfl, hb6, hc6⟩ := hbr
            clear hrp
            have hP6 := HPX.out.same hc6
            have hX6 := hc6.blk HX.out (fun f => f)
            have x1 : w6.cell? ⟨wr.heap.size, 1, none⟩ = some (.int .i64 d.n) := by rw [cell_of_row w6 _ _ _ _ _ hX6]; rfl
            have HBM := hide hP6.box
            have HR6 := hide (HRR.out _ hc6)
            clear hX6 HPX HRR
            go_wp2_with (first | (refine wpList_ldR rfl (.tmp 9) rfl bm rfl _ HBM.out (rcells_size _ _) ?_))
            refine HR6.out.mono ?_
            rintro e w7 ⟨qa, qc, rfl, hb7, hc7⟩
            simp only at hb7 ⊢
            have k1 := conv_str (hb6.chg0 hc7)
            have k2 := conv_str hb7
            have hP7 := hP6.same hc7
            have HP7 := hide hP7
            clear hP6 hb6 hb7 HBM HR6 x1 hP7
            generalize p.length = pl at k1 k2 ⊢
            go_wp2_with fail
            go_roundw
            case rel => exact ⟨i + 1, sb, m, L, F, C, G, by omega, by go_num, rfl, HP7.out, by omega⟩
            case measure => simp [intOf]; omega
          · by_cases h8 : d.op = 8
            · skip
              have e7 : (d.op == 7) = false := beq_eq_false_iff_ne.2 h7
              have e8 : (d.op == 8) = true := beq_iff_eq.2 h8
              clear h8
              go_wp2_with fail
              generalize wr.alloc (.cells #[.int .i64 d.op, .int .i64 d.n, .slice d.a d.k d.c] 42) = w5 at HPX HX HCX ⊢
              refine (HPX.out.ds.dev.fuse d.n hdn).mono ?_
              rintro e w6 ⟨rfl, hD6, hc6⟩
              have hH := HPX.out.dev hD6 ⟨hc6, fun _ h => .inl h, fun _ h => .inl h⟩
              have hX6 := hc6.blk HX.out HNF.out.1
              have x1 : w6.cell? ⟨wr.heap.size, 1, none⟩ = some (.int .i64 d.n) := by rw [cell_of_row w6 _ _ _ _ _ hX6]; rfl
              have y6 : w6.cell? ⟨bm, 6, none⟩ = some (.int .i64 m.fuse) := by rw [cell_of_row w6 _ _ _ _ _ hH.box]; rfl
              have z6 : w6.frozen? ⟨bm, 6, none⟩ = false := unfrozen hH.box 6
              have hPF := hH.fused
              have HPF := hide hPF
              have hmax : max (-1) d.n = (if d.n < -1 then -1 else d.n) := by split <;> omega
              rw [hmax] at HPF
              clear hmax
              clear hX6 HPX hH hD6 hPF
              go_wp2_with fail
              go_roundw
              case rel => exact ⟨i + 1, sb, m.setFuse d.n, L, F, C, G, by omega, by go_num, rfl, HPF.out, Nat.le_succ_of_le hwl⟩
              case measure => simp [intOf]; omega
            · skip
              have e7 : (d.op == 7) = false := beq_eq_false_iff_ne.2 h7
              have e8 : (d.op == 8) = false := beq_eq_false_iff_ne.2 h8
              go_wp2_with fail
              generalize wr.alloc (.cells #[.int .i64 d.op, .int .i64 d.n, .slice d.a d.k d.c] 42) = w5 at HPX HX HCX ⊢
              have HB5 := hide (HAT.out.bs.chg0 HPX.out.ds.chg)
              have hwl5 : m.waiting.length ≤ 4611686018427387904 := by omega
              have HOK := hide HPX.out.ds.dev.ok
              refine (HPX.out.ds.dev.crash d.a d.k d.c d.b HB5.out hwl5).mono ?_
              rintro e w6 ⟨ob, F6, C6, rfl, hD6, hc6, hF6, hC6⟩
              have HOKC := hide hD6.ok
              have hP6 := HPX.out.same hc6
              have hX6 := hc6.blk HX.out (fun f => f)
              have hch56 := hP6.ds.chg
              have HCR := hide (fun w' (hc : Chg NoB w6 w') => crashR_calls (hP6.ref.chg0 hc) (hP6.same hc).olds HOK.out d.a d.k d.c d.b ((HB5.out.chg0 hc6).chg0 hc) (fun b hb hp => by have := HOL.out b hb hp; have := (hch56.trans hc).size; omega) hwl5 HOKC.out)
              have HLA := hide (fun w' (hc : Chg NoB w6 w') L' G' (hr : RefAt w' G' (m.crash d.b) L') => looks_calls (hD6.chg0 hc) hr (by simp [DM.crash]))
              have HLB := hide (fun w' (hc : Chg NoB w6 w') => looks_calls (hP6.ds.dev.chg0 hc) (hP6.ref.chg0 hc) hwl5)
              have HBM := hide (fun w' (hc : Chg NoB w6 w') => hc.blk hP6.box (fun f => f))
              have x2 : ∀ w', Chg NoB w6 w' → w'.cell? ⟨wr.heap.size, 2, none⟩ = some (.slice d.a d.k d.c) := fun w' hc => by rw [cell_of_row w' _ _ _ _ _ (hc.blk hX6 (fun f => f))]; rfl
              have X2 := hide x2
              have x26 := x2 w6 (Chg.refl _ _)
              have hbm6 : bm < w5.heap.size := HPX.out.lt
              have hwm : (m.crash d.b).waiting.length ≤ i + 1 := by simp [DM.crash]
              have HWM := hide hwm
              clear x2 hX6 HX hwm
              generalize m.crash d.b = mc at HCR HLA hD6 HOKC HWM
              go_wp2_with (first | (refine wpList_ldR rfl (.tmp 9) rfl bm rfl _ (HBM.out _ (Chg.refl _ _)) (rcells_size _ _) ?_))
              refine (HCR.out _ (Chg.refl _ _)).mono ?_
              rintro e w7 ⟨L7, rfl, hr7, hc7⟩
              have HBM7 := hide (HBM.out _ hc7)
              go_wp2_with fail
              refine (HLA.out _ hc7 _ _ hr7).mono ?_
              rintro e w8 ⟨rfl, hc8⟩
              have hc68 := hc7.trans hc8
              have HBM8 := hide (HBM.out _ hc68)
              clear hr7 HBM7 x26
              go_wp2_with (first | (refine wpList_ldRw (by rfl) (.tmp 9) rfl bm rfl _ HBM8.out (rcells_size _ _) ?_))
              refine (HLB.out _ hc68).mono ?_
              rintro e w9 ⟨rfl, hc9⟩
              have hc69 := hc68.trans hc9
              have HBM9 := hide (HBM.out _ hc69)
              have x29 := X2.out _ hc69
              clear HBM8
              go_wp2_with (first | (refine wpList_ldR rfl (.tmp 9) rfl bm rfl _ HBM9.out (rcells_size _ _) ?_))
              refine (HCR.out _ hc69).mono ?_
              rintro e w10 ⟨L10, rfl, hr10, hc10⟩
              have hc610 := hc69.trans hc10
              have HBM10 := hide (HBM.out _ hc610)
              have hnew : PS w ob bm mc L10 F6 C6 (fun k => w9.heap.size ≤ k ∧ k < w10.heap.size) (w10.setRow bm (rcells mc L10)) := by
                have hcs := Chg.setRow1 w10 bm (rcells mc L10)
                have h69 := hc69.size
                have hbF : ¬ F6 bm := fun f => by have := hF6 _ f; omega
                have hbC : ¬ C6 bm := fun f => (hC6 _ f).elim hP6.far.2.1 (fun h => by omega)
                have h59 : w5.heap.size ≤ w9.heap.size := Nat.le_trans hc6.size h69
                exact ⟨⟨(hD6.chg0 hc610).chg hcs (fun k hk e => hbF (e ▸ hk)) (fun k hk e => hbC (e ▸ hk)), fun k hk => by have := hF6 k hk; have := HPX.out.ds.chg.size; omega, (hP6.ds.chg.trans hc610).trans' hcs (fun i hi => .inr (by have : i = bm := hi; have := hP6.far.2.2; omega))⟩,
                  setRow_heap _ _ _ _ _ _ HBM10.out, ⟨hbF, hbC, hP6.far.2.2⟩, (hr10.held HOKC.out).chg hcs (fun k hk e => by have : k = bm := e; have := hk.1; omega), fun k hk => ⟨by have := hk.2; simpa using this, fun f => by have := hD6.lt _ f; have := hk.1; omega, by have := hk.1; omega⟩⟩
              have HNEW := hide hnew
              clear hnew hr10 hD6 hP6 HCR HLA HLB HBM9 x29 HPX
              go_wp2_with (first | (refine wpList_stR rfl (.tmp 9) (.tmp 100) rfl bm rfl _ _ rfl HBM10.out (rcells_size _ _) (rcells_size _ _) (rcells_one _ _) (Hid.out ?_)))
              refine hide ?_
              try go_frame
              go_wp2_with fail
              go_roundw
              case rel => exact ⟨i + 1, ob, mc, L10, F6, C6, _, by omega, by go_num, rfl, HNEW.out, HWM.out⟩
              case measure => simp [intOf]; omega
      · have e7 : (d.op == 7) = false := beq_eq_false_iff_ne.2 (by omega)
        have e8 : (d.op == 8) = false := beq_eq_false_iff_ne.2 (by omega)
        go_wp2_with fail
        generalize wr.alloc (.cells #[.int .i64 d.op, .int .i64 d.n, .slice d.a d.k d.c] 42) = w5 at HPX HX HCX ⊢
        have HB5 := hide (HAT.out.bs.chg0 HPX.out.ds.chg)
        have hwl5 : m.waiting.length ≤ 4611686018427387904 := by omega
        have HOK := hide HPX.out.ds.dev.ok
        refine (HPX.out.ds.dev.crash d.a d.k d.c d.b HB5.out hwl5).mono ?_
        rintro e w6 ⟨ob, F6, C6, rfl, hD6, hc6, hF6, hC6⟩
        have HOKC := hide hD6.ok
        have hP6 := HPX.out.same hc6
        have hX6 := hc6.blk HX.out (fun f => f)
        have hch56 := hP6.ds.chg
        have HCR := hide (fun w' (hc : Chg NoB w6 w') => crashR_calls (hP6.ref.chg0 hc) (hP6.same hc).olds HOK.out d.a d.k d.c d.b ((HB5.out.chg0 hc6).chg0 hc) (fun b hb hp => by have := HOL.out b hb hp; have := (hch56.trans hc).size; omega) hwl5 HOKC.out)
        have HLA := hide (fun w' (hc : Chg NoB w6 w') L' G' (hr : RefAt w' G' (m.crash d.b) L') => looks_calls (hD6.chg0 hc) hr (by simp [DM.crash]))
        have HLB := hide (fun w' (hc : Chg NoB w6 w') => looks_calls (hP6.ds.dev.chg0 hc) (hP6.ref.chg0 hc) hwl5)
        have HBM := hide (fun w' (hc : Chg NoB w6 w') => hc.blk hP6.box (fun f => f))
        have x2 : ∀ w', Chg NoB w6 w' → w'.cell? ⟨wr.heap.size, 2, none⟩ = some (.slice d.a d.k d.c) := fun w' hc => by rw [cell_of_row w' _ _ _ _ _ (hc.blk hX6 (fun f => f))]; rfl
        have X2 := hide x2
        have x26 := x2 w6 (Chg.refl _ _)
        have hbm6 : bm < w5.heap.size := HPX.out.lt
        have hwm : (m.crash d.b).waiting.length ≤ i + 1 := by simp [DM.crash]
        have HWM := hide hwm
        clear x2 hX6 HX hwm
        generalize m.crash d.b = mc at HCR HLA hD6 HOKC HWM
        go_wp2_with (first | (refine wpList_ldR rfl (.tmp 9) rfl bm rfl _ (HBM.out _ (Chg.refl _ _)) (rcells_size _ _) ?_))
        refine (HCR.out _ (Chg.refl _ _)).mono ?_
        rintro e w7 ⟨L7, rfl, hr7, hc7⟩
        have HBM7 := hide (HBM.out _ hc7)
        go_wp2_with fail
        refine (HLA.out _ hc7 _ _ hr7).mono ?_
        rintro e w8 ⟨rfl, hc8⟩
        have hc68 := hc7.trans hc8
        have HBM8 := hide (HBM.out _ hc68)
        clear hr7 HBM7 x26
        go_wp2_with (first | (refine wpList_ldRw (by rfl) (.tmp 9) rfl bm rfl _ HBM8.out (rcells_size _ _) ?_))
        refine (HLB.out _ hc68).mono ?_
        rintro e w9 ⟨rfl, hc9⟩
        have hc69 := hc68.trans hc9
        have HBM9 := hide (HBM.out _ hc69)
        have x29 := X2.out _ hc69
        clear HBM8
        go_wp2_with (first | (refine wpList_ldR rfl (.tmp 9) rfl bm rfl _ HBM9.out (rcells_size _ _) ?_))
        refine (HCR.out _ hc69).mono ?_
        rintro e w10 ⟨L10, rfl, hr10, hc10⟩
        have hc610 := hc69.trans hc10
        have HBM10 := hide (HBM.out _ hc610)
        have hnew : PS w ob bm mc L10 F6 C6 (fun k => w9.heap.size ≤ k ∧ k < w10.heap.size) (w10.setRow bm (rcells mc L10)) := by
          have hcs := Chg.setRow1 w10 bm (rcells mc L10)
          have h69 := hc69.size
          have hbF : ¬ F6 bm := fun f => by have := hF6 _ f; omega
          have hbC : ¬ C6 bm := fun f => (hC6 _ f).elim hP6.far.2.1 (fun h => by omega)
          have h59 : w5.heap.size ≤ w9.heap.size := Nat.le_trans hc6.size h69
          exact ⟨⟨(hD6.chg0 hc610).chg hcs (fun k hk e => hbF (e ▸ hk)) (fun k hk e => hbC (e ▸ hk)), fun k hk => by have := hF6 k hk; have := HPX.out.ds.chg.size; omega, (hP6.ds.chg.trans hc610).trans' hcs (fun i hi => .inr (by have : i = bm := hi; have := hP6.far.2.2; omega))⟩,
            setRow_heap _ _ _ _ _ _ HBM10.out, ⟨hbF, hbC, hP6.far.2.2⟩, (hr10.held HOKC.out).chg hcs (fun k hk e => by have : k = bm := e; have := hk.1; omega), fun k hk => ⟨by have := hk.2; simpa using this, fun f => by have := hD6.lt _ f; have := hk.1; omega, by have := hk.1; omega⟩⟩
        have HNEW := hide hnew
        clear hnew hr10 hD6 hP6 HCR HLA HLB HBM9 x29 HPX
        go_wp2_with (first | (refine wpList_stR rfl (.tmp 9) (.tmp 100) rfl bm rfl _ _ rfl HBM10.out (rcells_size _ _) (rcells_size _ _) (rcells_one _ _) (Hid.out ?_)))
        refine hide ?_
        try go_frame
        go_wp2_with fail
        go_roundw
        case rel => exact ⟨i + 1, ob, mc, L10, F6, C6, _, by omega, by go_num, rfl, HNEW.out, HWM.out⟩
        case measure => simp [intOf]; omega
    · obtain rfl : i = an := by omega
      have HBM := hide hPL.box
      have HLK := hide (looks_calls hPL.ds.dev hPL.ref (by omega))
      have hchg := hPL.ds.chg
      clear hPL
      go_wp2_with (first | (refine wpList_ldR rfl (.tmp 9) rfl bm rfl _ HBM.out (rcells_size _ _) ?_))
      refine HLK.out.mono ?_
      rintro e w5 ⟨rfl, hc5⟩
      go_wp2_with fail
      go_ret
      exact ⟨rfl, hchg.trans hc5⟩
end Go.Proofs.Ythgejjlhfdegeaa
