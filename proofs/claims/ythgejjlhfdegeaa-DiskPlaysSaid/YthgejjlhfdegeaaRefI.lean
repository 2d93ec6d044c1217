/- The reference's device: Crash. -/
import Derived.Test.YthgejjlhfdegeaaRefH
import Derived.Test.YthgejjlhfdegeaaRefG
namespace Go.Proofs.Ythgejjlhfdegeaa
open Go.RowKit Go.MapKept
set_option linter.unusedSimpArgs false

/-- The boxes of Crash as the walk goes on. -/
structure CrS (w wr : World) (G : Nat → Prop) (m : DM) (L : RL) (b5 : Nat) (cur : Array Value) : Prop where
  d : wr.heap[w.heap.size]? = some (.cells (rcells m L) 52 (0, 0))
  r : ∃ cs, wr.heap[w.heap.size + 1]? = some (.cells cs 52 (0, 0)) ∧ cs.size = 13
  o : wr.heap[b5]? = some (.cells cur 52 (0, 0))
  sz : cur.size = 13
  ref : RefAt wr G m L
  chg : Chg NoB w wr
  b5 : w.heap.size + 2 ≤ b5
/-- The pages' blocks: new, and not the box. -/
def CA (w : World) (b5 j : Nat) : Prop := w.heap.size + 2 ≤ j ∧ j ≠ b5
section
variable {w wr w2 : World} {G : Nat → Prop} {m : DM} {L : RL} {b5 : Nat} {cur : Array Value}
theorem CrS.same (h : CrS w wr G m L b5 cur) (hc : Chg NoB wr w2) : CrS w w2 G m L b5 cur := by
  obtain ⟨cs, h1, h2⟩ := h.r
  exact ⟨hc.blk h.d (fun f => f), ⟨cs, hc.blk h1 (fun f => f), h2⟩, hc.blk h.o (fun f => f), h.sz, h.ref.chg0 hc, h.chg.trans hc, h.b5⟩
theorem CrS.pages (h : CrS w wr G m L b5 cur) (hG : Olds w G) {F : Nat → Prop} (hc : Chg F wr w2) (hF : ∀ j, F j → CA w b5 j) : CrS w w2 G m L b5 cur := by
  obtain ⟨cs, h1, h2⟩ := h.r
  exact ⟨hc.blk h.d (fun f => by have := (hF _ f).1; omega), ⟨cs, hc.blk h1 (fun f => by have := (hF _ f).1; omega), h2⟩, hc.blk h.o (fun f => (hF _ f).2 rfl), h.sz, h.ref.chg hc (fun k hk f => by have := (hF _ f).1; have := hG k hk; omega), h.chg.trans' hc (fun i hi => .inr (by have := (hF _ hi).1; omega)), h.b5⟩
theorem CrS.set (h : CrS w wr G m L b5 cur) (hG : Olds w G) (i : Nat) (v : Value) : CrS w (wr.setCell ⟨b5, i, none⟩ v) G m L b5 (cur.setIfInBounds i v) := by
  obtain ⟨cs, h1, h2⟩ := h.r
  have hb := h.b5
  have hc := Chg.cell1 wr b5 i v
  exact ⟨hc.blk h.d (by omega), ⟨cs, hc.blk h1 (by omega), h2⟩, setCell_blk h.o v, by simpa using h.sz, h.ref.chg hc (fun k hk f => by have := hG k hk; have : k = b5 := f; omega), h.chg.trans' hc (fun i hi => .inr (by omega)), hb⟩
theorem CrS.cd (h : CrS w wr G m L b5 cur) (i : Nat) {v : Value} (hv : (rcells m L)[i]? = some v) : wr.cell? ⟨w.heap.size, i, none⟩ = some v := by rw [cell_of_row wr _ _ _ _ _ h.d]; exact hv
theorem CrS.co (h : CrS w wr G m L b5 cur) (i : Nat) {v : Value} (hv : cur[i]? = some v) : wr.cell? ⟨b5, i, none⟩ = some v := by rw [cell_of_row wr _ _ _ _ _ h.o]; exact hv
theorem CrS.fo (h : CrS w wr G m L b5 cur) (i : Nat) : wr.frozen? ⟨b5, i, none⟩ = false := unfrozen h.o i
theorem CrS.lt (h : CrS w wr G m L b5 cur) : b5 < wr.heap.size := heap_lt h.o
theorem CrS.ca (h : CrS w wr G m L b5 cur) : ∀ q, wr.heap.size ≤ q → CA w b5 q := fun q hq => by have := h.lt; have := h.b5; exact ⟨by omega, by omega⟩
end
theorem CA.no {w : World} {b5 : Nat} : ∀ j, CA w b5 j → ¬ j = b5 := fun _ h => h.2
section
variable {A : Nat → Prop} {wr w1 w2 : World} {pg pg' : Nat → List UInt8} {k n : Nat} {ba : Option Addr} {bc : Nat} {pv : List Value} {gb : Nat → Nat}
theorem OutRow.congr (h : OutRow A wr pg k n ba bc pv gb) (he : ∀ i, i < k → pg i = pg' i) : OutRow A wr pg' k n ba bc pv gb :=
  ⟨h.row, h.far, fun i hi => by rw [← he i hi]; exact h.page i hi, h.inj, h.le⟩
theorem OutRow.all (h : OutRow A wr pg n n ba bc pv gb) {m : DM} (hm : m.base.length = n) (hp : ∀ (i : Nat) p, m.base[i]? = some p → pg i = p) (hl : ∀ p ∈ m.base, p.length = 512) : ∀ (i : Nat) p, m.base[i]? = some p → ∃ v, pv[i]? = some v ∧ SV wr A v p := fun i p hpp => by
  have hi : i < n := by rw [← hm]; exact (List.getElem?_eq_some_iff.1 hpp).1
  obtain ⟨c, h1, h2, h3, h4⟩ := h.page i hi
  have h512 := hl p (List.mem_of_getElem? hpp)
  rw [hp i p hpp] at h3
  exact ⟨_, h1, _, c, by rw [h512], by rw [h512]; exact BS.own h3, fun b hb => by cases hb; exact h2⟩
/-- A byte of a page is written. -/
theorem OutRow.poke (h : OutRow A wr pg k n ba bc pv gb) {p i : Nat} (hp : p < k) (hi : i < 512) (x : UInt8) :
    OutRow A (wr.setCell ⟨gb p, i, none⟩ (bcell x)) (fun j => if j = p then (pg p).set i x else pg j) k n ba bc pv gb := by
  obtain ⟨cp, p1, p2, p3, p4⟩ := h.page p hp
  have hc := Chg.cell1 wr (gb p) i (bcell x)
  refine ⟨ownsRow_chg h.row hc (fun b hb e => p4 ⟨b, hb, e⟩), h.far, fun j hj => ?_, h.inj, h.le⟩
  by_cases hjp : j = p
  · subst hjp
    simp only [if_true]
    have := row_set p3 hi (bcell x)
    exact ⟨cp, p1, p2, by rw [show bcells ((pg j).set i x) = (bcells (pg j)).set i (bcell x) by simp [bcells, List.map_set]]; exact this, p4⟩
  · simp only [if_neg hjp]
    obtain ⟨c, q1, q2, q3, q4⟩ := h.page j hj
    exact ⟨c, q1, q2, ownsRow_chg q3 hc (fun b hb e => by cases hb; exact hjp (h.inj j p hj hp e)), q4⟩
end
theorem getD_set (l : List (List UInt8)) (p j : Nat) (b : List UInt8) (hp : p < l.length) : (l.set p b).getD j [] = if j = p then b else l.getD j [] := by
  rw [List.getD_eq_getElem?_getD, List.getElem?_set]
  by_cases h : j = p
  · subst h; simp [hp]
  · simp [h, Ne.symm h]

section
variable {A : Nat → Prop} {wr w1 w2 : World} {pg pg' : Nat → List UInt8} {k n : Nat} {ba : Option Addr} {bc : Nat} {pv : List Value} {gb : Nat → Nat}
/-- What is written is new. -/
theorem OutRow.news (h : OutRow A wr pg k n ba bc pv gb) {F : Nat → Prop} (hc : Chg F wr w2) (hF : ∀ j, F j → wr.heap.size ≤ j) : OutRow A w2 pg k n ba bc pv gb :=
  ⟨ownsRow_chg h.row hc (fun b hb e => by have := blkOf_lt_row h.row _ ⟨b, hb, rfl⟩; have := hF _ e; omega), h.far, fun i hi => by
    obtain ⟨c, h1, h2, h3, h4⟩ := h.page i hi
    exact ⟨c, h1, h2, ownsRow_chg h3 hc (fun b hb e => by have := blkOf_lt_row h3 _ ⟨b, hb, rfl⟩; have := hF _ e; omega), h4⟩, h.inj, h.le⟩
end
theorem DM.crash_all (m : DM) (c : List UInt8) (hc : m.certain ≤ m.log.length) : (m.crash c).log = (m.log ++ m.tail).take (m.certain + (chAt c 0 + 256 * chAt c 1) % ((m.log ++ m.tail).length - m.certain + 1)) := by
  have e : (m.crash c).log = m.log.take m.certain ++ (m.log.drop m.certain ++ m.tail).take ((chAt c 0 + 256 * chAt c 1) % ((m.log.drop m.certain ++ m.tail).length + 1)) := rfl
  have h1 : (m.log.drop m.certain ++ m.tail).length = (m.log ++ m.tail).length - m.certain := by simp; omega
  have h2 : m.log ++ m.tail = m.log.take m.certain ++ (m.log.drop m.certain ++ m.tail) := by rw [← List.append_assoc, List.take_append_drop]
  have h3 : (m.log.take m.certain).length = m.certain := by simp; omega
  rw [e, h1]
  generalize (chAt c 0 + 256 * chAt c 1) % ((m.log ++ m.tail).length - m.certain + 1) = k
  rw [h2]
  conv => rhs; rw [List.take_append, h3, List.take_of_length_le (by omega), Nat.add_sub_cancel_left]
theorem splice_set (x o : List UInt8) (i : Nat) (hx : i < x.length) (ho : o.length = x.length) : (x.take i ++ o.drop i).set i (x.getD i 0) = x.take (i + 1) ++ o.drop (i + 1) := by
  have h1 : (x.take i).length = i := by simp; omega
  rw [List.set_append, if_neg (by omega), h1, Nat.sub_self, List.drop_eq_getElem_cons (by omega : i < o.length), List.set_cons_zero, List.take_succ_eq_append_getElem hx, List.append_assoc]
  simp [hx]
def RL.crashed (g bc : Nat) (pv : List Value) (la : Option Addr) (lc : Nat) (ma : Option Addr) (mc : Nat) : RL := { RL.fresh (some ⟨g, 0, none⟩) bc pv with la := la, lc := lc, ma := ma, mc := mc }
def DM.crashM (m : DM) (bs : List (List UInt8)) (lg : List UInt8) : DM := { room := m.room, base := bs, waiting := [], log := lg, certain := lg.length, mark := m.mark, fuse := -1, ops := 0, dead := false, torn := none, tail := [] }
theorem DM.crash_eq (m : DM) (c : List UInt8) {bs : List (List UInt8)} {lg : List UInt8} (hb : (m.crash c).base = bs) (hl : (m.crash c).log = lg) : m.crash c = m.crashM bs lg := by
  subst hb hl; rfl
theorem crash_ref {w wr : World} {m : DM} {bs : List (List UInt8)} {lg : List UInt8} {b5 n g bc : Nat} {pv : List Value} {gb : Nat → Nat} (hO : OutRow (CA w b5) wr (fun j => bs.getD j []) n n (some ⟨g, 0, none⟩) bc pv gb) (hbl : bs.length = n) (h512 : ∀ p ∈ bs, p.length = 512)
    {la ma : Option Addr} {lc mc : Nat} (hl : BS wr la lg.length lc lg) (hla : ∀ b, la = some b → w.heap.size + 2 ≤ b.block) (hm : BS wr ma m.mark.length mc m.mark) (hma : ∀ b, ma = some b → w.heap.size + 2 ≤ b.block) :
    RefAt wr (fun k => w.heap.size + 2 ≤ k) (m.crashM bs lg) (RL.crashed g bc pv la lc ma mc) where
  base := by show CR wr (some ⟨g, 0, none⟩) bs.length bc 1 pv; rw [hbl]; exact CR.own hO.row
  page i p hp := by
    obtain ⟨v, h1, h2⟩ := hO.all (m := m.crashM bs lg) hbl (fun i p hp => by have hp' : bs[i]? = some p := hp; rw [List.getD_eq_getElem?_getD, hp']; rfl) h512 i p hp
    exact ⟨v, h1, h2.mono fun k hk => hk.1⟩
  baG b hb := (hO.far b hb).1
  wait := CR.nil' _ _
  wsv i r hr := by simp [DM.crashM] at hr
  wvl := rfl
  waG b hb _ := by cases hb
  log := hl
  logG b hb _ := hla b hb
  mark := hm
  markG b hb _ := hma b hb
  tail := BS.nil' _
  tailG b hb _ := by cases hb
  torn p b hb := by cases hb

/-- What a crash leaves, of the reference. -/
def CrashR (w : World) (m : DM) (e : Ending) (w' : World) : Prop :=
  ∃ L', e = .returned (.agg (rcells m L')) ∧ RefAt w' (fun k => w.heap.size ≤ k) m L' ∧ Chg NoB w w'

set_option maxHeartbeats 4000000 in
set_option maxRecDepth 100000 in
theorem crashR_calls {w : World} {G : Nat → Prop} {m : DM} {L : RL} (h : RefAt w G m L) (hG : Olds w G) (hok : m.Ok) (ca : Option Addr) (cn cc : Nat) (cl : List UInt8) (hb : BS w ca cn cc cl) (hcG : ∀ b, ca = some b → 0 < cn → b.block < w.heap.size) (hwl : m.waiting.length ≤ 4611686018427387904) (hokc : (m.crash cl).Ok) :
    Calls Try.prog 35 #[.agg (rcells m L), .slice ca cn cc] w (CrashR w (m.crash cl)) := by
  have HOKC := hide hokc; clear hokc
  obtain ⟨iu, hu, hu0, hu1, hu2⟩ := info_parts infoU8
  have HOK := hide hok
  have hpn : m.base.length ≤ 65536 := hok.pages.2
  have hp1 : 1 ≤ m.base.length := hok.pages.1
  have HBS := hide (fun w' (hc : Chg (fun j => w.heap.size ≤ j) w w') => hb.chgw hc (fun b hb' hp => by have := hcG b hb' hp; omega))
  clear hb hok
  have hC0 : (rcells m L)[0]? = some (.slice L.ba m.base.length L.bc) := rfl
  have hC2 : (rcells m L)[2]? = some (.int .i64 m.room) := rfl
  have HR2 := hide h
  have hRb := h.base
  clear h
  go_enter Try.func35, Try.ntmps35
  go_wp2_with fail
  refine (newR_calls m.base.length m.room _ hpn).mono ?_
  rintro e w3 ⟨ba, bc, pv0, rfl, hrow, hc3⟩
  have HBX := hide (heap_alloc_new w3 (.cells zcs 52))
  go_wp2_with (first | (refine wpList_stR rfl (.tmp 5) (.tmp 17) rfl w3.heap.size rfl zcs _ rfl HBX.out rfl rfl (newCells_one _ _ _ _) (Hid.out ?_)))
  refine hide ?_
  try go_frame
  rw [setRow_alloc]
  have hw2 : Chg NoB w ((w.alloc (.cells (rcells m L) 52)).alloc (.cells zcs 52)) := (Chg.alloc _ _ _).trans (Chg.alloc _ _ _)
  have hcx := hc3.trans (Chg.alloc NoB w3 (.cells (newCells ba m.base.length bc m.room) 52))
  have h35 : w.heap.size + 2 ≤ w3.heap.size := by have := hc3.size; simp at this; omega
  have hS : CrS w (w3.alloc (.cells (newCells ba m.base.length bc m.room) 52)) G m L w3.heap.size (newCells ba m.base.length bc m.room) :=
    ⟨hcx.blk (alloc_blk (heap_alloc_new w _) _) (fun f => f), ⟨zcs, hcx.blk (heap_alloc_new' _ (by simp) _) (fun f => f), rfl⟩, heap_alloc_new w3 _, rfl, HR2.out.chg0 (hw2.trans hcx), hw2.trans hcx, h35⟩
  have hO : OutRow (CA w w3.heap.size) (w3.alloc (.cells (newCells ba m.base.length bc m.room) 52)) (fun j => m.base.getD j []) 0 m.base.length ba bc pv0 (fun _ => 0) :=
    ⟨ownsRow_chg hrow.row (Chg.alloc NoB w3 _) (fun _ _ f => f), fun b hb => ⟨by have := hrow.far b hb; simp at this; omega, fun e => by have := blkOf_lt_row hrow.row b.block ⟨b, hb, rfl⟩; omega⟩, fun i hi => absurd hi (Nat.not_lt_zero _), fun i j hi => absurd hi (Nat.not_lt_zero _), Nat.zero_le _⟩
  obtain ⟨g, _, hbag, _⟩ := hO.form (by omega)
  subst hbag
  clear hrow hc3 hcx hw2 HBX
  generalize w3.alloc (.cells (newCells (some ⟨g, 0, none⟩) m.base.length bc m.room) 52) = w4 at hS hO ⊢
  generalize w3.heap.size = b5 at hS hO ⊢
  obtain ⟨bg, bo, hLba, hbc⟩ := hRb.form (by omega) (by omega)
  have HLBA := hide hLba; clear hLba hbc hRb
  clear hC0 hC2
  go_wp2_with fail
  go_loopw [6] (fun v wr => ∃ (k : Nat) (pv : List Value) (gb : Nat → Nat), k ≤ m.base.length ∧ v = .int .i64 k ∧ CrS w wr G m L b5 (newCells (some ⟨g, 0, none⟩) m.base.length bc m.room) ∧ OutRow (CA w b5) wr (fun j => m.base.getD j []) k m.base.length (some ⟨g, 0, none⟩) bc pv gb) (fun v _ => m.base.length - (intOf v).toNat)
  case atStart => exact ⟨0, pv0, fun _ => 0, by omega, rfl, hS, hO⟩
  case round =>
    obtain ⟨k, pv, gb, hk, rfl, hSR, hOR⟩ := hrel
    clear hS hO
    have c0 := hSR.cd 0 (v := .slice L.ba m.base.length L.bc) rfl
    rw [HLBA.out] at c0
    have o0 := hSR.co 0 (v := .slice (some ⟨g, 0, none⟩) m.base.length bc) rfl
    by_cases hlt : k < m.base.length
    · have hlt' : (k : Int) < (m.base.length : Int) := by omega
      have hk0 : (0 : Int) ≤ (k : Int) := by omega
      obtain ⟨pgk, hpgk⟩ : ∃ p, m.base[k]? = some p := ⟨_, List.getElem?_eq_getElem hlt⟩
      obtain ⟨v, hv, pa, pc, rfl, hbs, hpG⟩ := hSR.ref.page k pgk hpgk
      have h512 : pgk.length = 512 := HOK.out.page _ (List.mem_of_getElem? hpgk)
      have hpd : m.base.getD k [] = pgk := by rw [List.getD_eq_getElem?_getD, hpgk]; rfl
      rw [h512] at hv hbs
      have hcell := hSR.ref.base.cell
      rw [HLBA.out] at hcell
      have cp := hcell _ rfl k _ hv
      rw [show (⟨bg, bo, none⟩ : Addr).add k = ⟨bg, bo + k, none⟩ by unfold Addr.add; split <;> simp_all] at cp
      have H512 := hide h512; have HPD := hide hpd
      have HBS2 := hide (hbs.chg0 (Chg.drew NoB wr))
      have HKEEP := hide (fun w' (hc : Chg NoB wr w') => And.intro ((hSR.same hc).co 0 (v := .slice (some ⟨g, 0, none⟩) m.base.length bc) rfl) (And.intro (show w'.cell? ⟨w.heap.size, 0, none⟩ = some (.slice (some ⟨bg, bo, none⟩) m.base.length L.bc) by rw [← HLBA.out]; exact (hSR.same hc).cd 0 rfl) ((hc.cell (p := ⟨bg, bo + k, none⟩) (cell_some cp).1 (fun f => f)).trans cp)))
      obtain ⟨_, cur, hgg, hgc, hnb, hcs, _⟩ := hOR.form (by omega)
      cases hgg
      have hb1 := hOR.row.1
      have HG1 := hide hgc; have hkc : k < cur.size := by omega
      have HG2 := hide hkc
      clear h512 hpd hbs hv hcell hpgk hgc hcs hnb hkc
      go_wp2_with fail
      refine AnyM.region (S := fun w' : World => w'.cell? ⟨b5, 0, none⟩ = some (.slice (some ⟨g, 0, none⟩) m.base.length bc) ∧ w'.cell? ⟨w.heap.size, 0, none⟩ = some (.slice (some ⟨bg, bo, none⟩) m.base.length L.bc) ∧ w'.cell? ⟨bg, bo + k, none⟩ = some (.slice pa 512 pc)) (late := fun i => i == 10) (by kernel_rfl) ?_
      have hHeld : (fun w' : World => w'.cell? ⟨b5, 0, none⟩ = some (.slice (some ⟨g, 0, none⟩) m.base.length bc) ∧ w'.cell? ⟨w.heap.size, 0, none⟩ = some (.slice (some ⟨bg, bo, none⟩) m.base.length L.bc) ∧ w'.cell? ⟨bg, bo + k, none⟩ = some (.slice pa 512 pc)) _ := HKEEP.out _ (Chg.drew _ _)
      refine AnyM.take (i := 0) (v := ?v0) rfl (by kernel_rfl) (by kernel_rfl) rfl (by kernel_rfl) (by kernel_rfl) (fun _ _ _ h => h) (Or.inl ⟨by rfl, ?y0⟩) hHeld ?r0
      case y0 => (intro w hSw; (try dsimp only at hSw); obtain ⟨hS1, hS2, hS3⟩ := hSw; go_simp; try with_reducible rfl)
      try simp only [Act.put, List.setIfInBounds_toArray, List.set_cons_zero, List.set_cons_succ, List.getElem_cons_zero, List.getElem_cons_succ, List.getElem_toArray]
      refine AnyM.take (i := 1) (v := ?v1) rfl (by kernel_rfl) (by kernel_rfl) rfl (by kernel_rfl) (by kernel_rfl) (fun _ _ _ h => h) (Or.inl ⟨by rfl, ?y1⟩) hHeld ?r1
      case y1 => (intro w hSw; (try dsimp only at hSw); obtain ⟨hS1, hS2, hS3⟩ := hSw; go_simp; try with_reducible rfl)
      try simp only [Act.put, List.setIfInBounds_toArray, List.set_cons_zero, List.set_cons_succ, List.getElem_cons_zero, List.getElem_cons_succ, List.getElem_toArray]
      refine AnyM.take (i := 2) (v := ?v2) rfl (by kernel_rfl) (by kernel_rfl) rfl (by kernel_rfl) (by kernel_rfl) (fun _ _ _ h => h) (Or.inl ⟨by rfl, ?y2⟩) hHeld ?r2
      case y2 => (intro w hSw; (try dsimp only at hSw); obtain ⟨hS1, hS2, hS3⟩ := hSw; go_simp; try with_reducible rfl)
      try simp only [Act.put, List.setIfInBounds_toArray, List.set_cons_zero, List.set_cons_succ, List.getElem_cons_zero, List.getElem_cons_succ, List.getElem_toArray]
      refine AnyM.take (i := 3) (v := ?v3) rfl (by kernel_rfl) (by kernel_rfl) rfl (by kernel_rfl) (by kernel_rfl) (fun _ _ _ h => h) (Or.inl ⟨by rfl, ?y3⟩) hHeld ?r3
      case y3 => (intro w hSw; (try dsimp only at hSw); obtain ⟨hS1, hS2, hS3⟩ := hSw; go_simp; try with_reducible rfl)
      try simp only [Act.put, List.setIfInBounds_toArray, List.set_cons_zero, List.set_cons_succ, List.getElem_cons_zero, List.getElem_cons_succ, List.getElem_toArray]
      refine AnyM.take (i := 4) (v := ?v4) rfl (by kernel_rfl) (by kernel_rfl) rfl (by kernel_rfl) (by kernel_rfl) (fun _ _ _ h => h) (Or.inl ⟨by rfl, ?y4⟩) hHeld ?r4
      case y4 => (intro w hSw; (try dsimp only at hSw); obtain ⟨hS1, hS2, hS3⟩ := hSw; go_simp; try with_reducible rfl)
      try simp only [Act.put, List.setIfInBounds_toArray, List.set_cons_zero, List.set_cons_succ, List.getElem_cons_zero, List.getElem_cons_succ, List.getElem_toArray]
      refine AnyM.take (i := 5) (v := ?v5) rfl (by kernel_rfl) (by kernel_rfl) rfl (by kernel_rfl) (by kernel_rfl) (fun _ _ _ h => h) (Or.inl ⟨by rfl, ?y5⟩) hHeld ?r5
      case y5 => (intro w hSw; (try dsimp only at hSw); obtain ⟨hS1, hS2, hS3⟩ := hSw; go_simp; try with_reducible rfl)
      try simp only [Act.put, List.setIfInBounds_toArray, List.set_cons_zero, List.set_cons_succ, List.getElem_cons_zero, List.getElem_cons_succ, List.getElem_toArray]
      refine AnyM.take (i := 6) (v := ?v6) rfl (by kernel_rfl) (by kernel_rfl) rfl (by kernel_rfl) (by kernel_rfl) (fun _ _ _ h => h) (Or.inl ⟨by rfl, ?y6⟩) hHeld ?r6
      case y6 => (intro w hSw; (try dsimp only at hSw); obtain ⟨hS1, hS2, hS3⟩ := hSw; go_simp; try with_reducible rfl)
      try simp only [Act.put, List.setIfInBounds_toArray, List.set_cons_zero, List.set_cons_succ, List.getElem_cons_zero, List.getElem_cons_succ, List.getElem_toArray]
      refine AnyM.take (i := 7) (v := ?v7) rfl (by kernel_rfl) (by kernel_rfl) rfl (by kernel_rfl) (by kernel_rfl) (fun _ _ _ h => h) (Or.inl ⟨by rfl, ?y7⟩) hHeld ?r7
      case y7 => (intro w hSw; (try dsimp only at hSw); obtain ⟨hS1, hS2, hS3⟩ := hSw; go_simp; try with_reducible rfl)
      try simp only [Act.put, List.setIfInBounds_toArray, List.set_cons_zero, List.set_cons_succ, List.getElem_cons_zero, List.getElem_cons_succ, List.getElem_toArray]
      refine AnyM.step (i := 8) (by kernel_rfl) rfl rfl (fun K hK => ?_)
      go_simp
      refine (copied_calls _ _ _ pgk _ HBS2.out (by omega)).mono ?_
      rintro e w5 ⟨a3, c3, rfl, h2, h3, h4⟩
      have h3' := (Chg.drew NoB wr).trans h3
      rw [H512.out] at h2 ⊢
      have HH2 := hide h2; clear h2
      have d1 : ∃ v, w5.cell? ⟨g, k, none⟩ = some v := ⟨_, by rw [cell_of_row w5 _ _ _ _ _ (h3'.blk HG1.out (fun f => f))]; exact Array.getElem?_eq_getElem HG2.out⟩
      obtain ⟨vd, d1⟩ := d1
      have e1 : w5.frozen? ⟨g, k, none⟩ = false := unfrozen (h3'.blk HG1.out (fun f => f)) k
      clear hHeld
      refine hK.out _ _ (by first | exact HKEEP.out _ (Chg.drew _ _) | exact HKEEP.out _ h3') (fun hHeld => ?_)
      clear hK K
      try simp only [Act.put, List.setIfInBounds_toArray, List.set_cons_zero, List.set_cons_succ, List.getElem_cons_zero, List.getElem_cons_succ, List.getElem_toArray]
      refine AnyM.take (i := 9) (v := ?v9) rfl (by kernel_rfl) (by kernel_rfl) rfl (by kernel_rfl) (by kernel_rfl) (fun _ _ _ h => h) (Or.inl ⟨by rfl, ?y9⟩) hHeld ?r9
      case y9 => (intro w hSw; (try dsimp only at hSw); obtain ⟨hS1, hS2, hS3⟩ := hSw; go_simp; try with_reducible rfl)
      try simp only [Act.put, List.setIfInBounds_toArray, List.set_cons_zero, List.set_cons_succ, List.getElem_cons_zero, List.getElem_cons_succ, List.getElem_toArray]
      refine AnyM.last (i := 10) (by kernel_rfl) rfl rfl (fun K hK => ?_)
      go_simp
      refine hK.out _ _ ?_
      clear hK K
      try simp only [Act.put, List.setIfInBounds_toArray, List.set_cons_zero, List.set_cons_succ, List.getElem_cons_zero, List.getElem_cons_succ, List.getElem_toArray]
      refine AnyM.done (by kernel_rfl) ?_ _
      have hq4 : ∀ b, a3 = some b → wr.heap.size ≤ b.block := h4
      obtain ⟨gb', hOut⟩ := hOR.put (i := k) (k' := k + 1) hlt (Nat.le_refl _) (by omega) h3' (p := pgk) H512.out hSR.ca (by rw [H512.out]; exact HH2.out) hq4
      have hOut2 := hOut.congr (pg' := fun j => m.base.getD j []) (fun i hi => by
        by_cases h : i = k
        · subst h; simp only [if_true]; exact HPD.out.symm
        · simp only [if_neg h])
      have hSR2 := (hSR.same h3').pages hG (Chg.cell1 w5 g k (.slice a3 512 c3)) (fun j hj => by have : j = g := hj; subst this; exact hOR.far _ rfl)
      clear hOut hSR hOR hHeld d1 e1 HG1 HG2 HKEEP
      go_wp2_with fail
      go_roundw
      case rel => exact ⟨k + 1, _, gb', by omega, by go_num, hSR2, hOut2⟩
      case measure => simp [intOf]; omega
    · obtain rfl : k = m.base.length := by omega
      clear hk hlt hp1
      have hbn : m.base.length = m.base.length := rfl
      generalize hN : m.base.length = n at hOR hSR c0 o0 ⊢
      have HN := hide hN; clear hN hbn
      go_wp2_with fail
      obtain ⟨wq, rfl⟩ : ∃ wq : World, wq = wr := ⟨_, rfl⟩
      go_loopw [7] (fun v wr => ∃ (k : Nat) (pv : List Value) (gb : Nat → Nat), k ≤ m.waiting.length ∧ v = .int .i64 k ∧ CrS w wr G m L b5 (newCells (some ⟨g, 0, none⟩) n bc m.room) ∧ OutRow (CA w b5) wr (fun j => (crashTo cl m.waiting m.base k).getD j []) n n (some ⟨g, 0, none⟩) bc pv gb) (fun v _ => m.waiting.length - (intOf v).toNat)
      case atStart => exact ⟨0, pv, gb, by omega, rfl, hSR, hOR⟩
      case round =>
        obtain ⟨k, pv, gb, hk, rfl, hS2, hO2⟩ := hrel
        clear hSR hOR c0 o0
        have c1 := hS2.cd 1 (v := .slice L.wa m.waiting.length L.wc) rfl
        have o0 := hS2.co 0 (v := .slice (some ⟨g, 0, none⟩) n bc) rfl
        have HBC := hide (HBS.out wr (hS2.chg.mono (fun _ f => f.elim)))
        by_cases hlt : k < m.waiting.length
        · have hlt' : (k : Int) < (m.waiting.length : Int) := by omega
          have hk0 : (0 : Int) ≤ (k : Int) := by omega
          obtain ⟨⟨rp, rb⟩, hr⟩ : ∃ r, m.waiting[k]? = some r := ⟨_, List.getElem?_eq_getElem hlt⟩
          have hstep : crashTo cl m.waiting m.base (k + 1) = if chAt cl k % 2 = 0 then (crashTo cl m.waiting m.base k).set rp rb else crashTo cl m.waiting m.base k := by
            have e : m.waiting.getD k (0, []) = (rp, rb) := by rw [List.getD_eq_getElem?_getD, hr]; rfl
            rw [crashTo, e]
          have HST := hide hstep; clear hstep
          have hw := HOK.out.wait _ (List.mem_of_getElem? hr)
          simp only at hw
          rw [HN.out] at hw
          obtain ⟨hrn, hrl⟩ := hw
          obtain ⟨v, hv, pa, pc, rfl, hbs, hpG⟩ := hS2.ref.wsv k _ hr
          simp only at hbs hv
          rw [hrl] at hbs hv
          obtain ⟨gw, ow, hwa, hcell⟩ := hS2.ref.wait.form (by omega) (by omega)
          have hx := wcells_at hr hv
          have cp := hcell _ _ hx.1
          have cb := hcell _ _ hx.2
          rw [← Nat.add_assoc] at cb
          rw [hwa] at c1
          have HWA := hide hwa
          have HRL := hide hrl
          have HBS2 := hide (hbs.chg0 (Chg.drew NoB wr))
          have HKEEP := hide (fun w' (hc : Chg NoB wr w') => And.intro ((hS2.same hc).co 0 (v := .slice (some ⟨g, 0, none⟩) n bc) rfl) (And.intro (show w'.cell? ⟨w.heap.size, 1, none⟩ = some (.slice (some ⟨gw, ow, none⟩) m.waiting.length L.wc) by rw [← HWA.out]; exact (hS2.same hc).cd 1 rfl) (And.intro ((hc.cell (p := ⟨gw, ow + k * 2, none⟩) (cell_some cp).1 (fun f => f)).trans cp) ((hc.cell (p := ⟨gw, ow + k * 2 + 1, none⟩) (cell_some cb).1 (fun f => f)).trans cb))))
          obtain ⟨_, cur, hgg, hgc, hnb, hcs, _⟩ := hO2.form (by omega)
          cases hgg
          have hb1 := hO2.row.1
          have HG1 := hide hgc; have hkc : rp < cur.size := by omega
          have HG2 := hide hkc
          have hrn' : (rp : Int) < (n : Int) := by omega
          have hrp0 : (0 : Int) ≤ (rp : Int) := by omega
          have hxl := chAt_lt cl k
          have hAT := HBC.out
          have HAT := hide (atR_calls ca cn cc cl k wr hAT)
          clear hbs hv hcell hr hgc hcs hnb hkc hx hwa hAT hrl
          by_cases hev : chAt cl k % 2 = 0
          · have hstep : crashTo cl m.waiting m.base (k + 1) = (crashTo cl m.waiting m.base k).set rp rb := by rw [HST.out, if_pos hev]
            have HST2 := hide hstep; clear hstep HST
            have hb2 : (((chAt cl k : Nat) : Int) % 2 == 0) = true := by rw [beq_iff_eq]; omega
            generalize chAt cl k = x at hb2 hxl HAT
            have hx0 : (0 : Int) ≤ (x : Int) := by omega
            have hx1 : (x : Int) ≤ 255 := by omega
            clear hev hxl
            go_wp2_with fail
            refine HAT.out.mono ?_
            rintro e w8 ⟨rfl, rfl⟩
            go_wp2_with fail
            refine AnyM.region (S := fun w' : World => w'.cell? ⟨b5, 0, none⟩ = some (.slice (some ⟨g, 0, none⟩) n bc) ∧ w'.cell? ⟨w.heap.size, 1, none⟩ = some (.slice (some ⟨gw, ow, none⟩) m.waiting.length L.wc) ∧ w'.cell? ⟨gw, ow + k * 2, none⟩ = some (.int .i64 rp) ∧ w'.cell? ⟨gw, ow + k * 2 + 1, none⟩ = some (.slice pa 512 pc)) (late := fun i => i == 16) (by kernel_rfl) ?_
            have hHeld : (fun w' : World => w'.cell? ⟨b5, 0, none⟩ = some (.slice (some ⟨g, 0, none⟩) n bc) ∧ w'.cell? ⟨w.heap.size, 1, none⟩ = some (.slice (some ⟨gw, ow, none⟩) m.waiting.length L.wc) ∧ w'.cell? ⟨gw, ow + k * 2, none⟩ = some (.int .i64 rp) ∧ w'.cell? ⟨gw, ow + k * 2 + 1, none⟩ = some (.slice pa 512 pc)) _ := HKEEP.out _ (Chg.drew _ _)
            refine AnyM.take (i := 0) (v := ?vb0) rfl (by kernel_rfl) (by kernel_rfl) rfl (by kernel_rfl) (by kernel_rfl) (fun _ _ _ h => h) (Or.inl ⟨by rfl, ?yb0⟩) hHeld ?rb0
            case yb0 => (intro w hSw; (try dsimp only at hSw); obtain ⟨hS1, hS2, hS3, hS4⟩ := hSw; go_simp; try with_reducible rfl)
            try simp only [Act.put, List.setIfInBounds_toArray, List.set_cons_zero, List.set_cons_succ, List.getElem_cons_zero, List.getElem_cons_succ, List.getElem_toArray]
            refine AnyM.take (i := 1) (v := ?vb1) rfl (by kernel_rfl) (by kernel_rfl) rfl (by kernel_rfl) (by kernel_rfl) (fun _ _ _ h => h) (Or.inl ⟨by rfl, ?yb1⟩) hHeld ?rb1
            case yb1 => (intro w hSw; (try dsimp only at hSw); obtain ⟨hS1, hS2, hS3, hS4⟩ := hSw; go_simp; try with_reducible rfl)
            try simp only [Act.put, List.setIfInBounds_toArray, List.set_cons_zero, List.set_cons_succ, List.getElem_cons_zero, List.getElem_cons_succ, List.getElem_toArray]
            refine AnyM.take (i := 2) (v := ?vb2) rfl (by kernel_rfl) (by kernel_rfl) rfl (by kernel_rfl) (by kernel_rfl) (fun _ _ _ h => h) (Or.inl ⟨by rfl, ?yb2⟩) hHeld ?rb2
            case yb2 => (intro w hSw; (try dsimp only at hSw); obtain ⟨hS1, hS2, hS3, hS4⟩ := hSw; go_simp; try with_reducible rfl)
            try simp only [Act.put, List.setIfInBounds_toArray, List.set_cons_zero, List.set_cons_succ, List.getElem_cons_zero, List.getElem_cons_succ, List.getElem_toArray]
            refine AnyM.take (i := 3) (v := ?vb3) rfl (by kernel_rfl) (by kernel_rfl) rfl (by kernel_rfl) (by kernel_rfl) (fun _ _ _ h => h) (Or.inl ⟨by rfl, ?yb3⟩) hHeld ?rb3
            case yb3 => (intro w hSw; (try dsimp only at hSw); obtain ⟨hS1, hS2, hS3, hS4⟩ := hSw; go_simp; try with_reducible rfl)
            try simp only [Act.put, List.setIfInBounds_toArray, List.set_cons_zero, List.set_cons_succ, List.getElem_cons_zero, List.getElem_cons_succ, List.getElem_toArray]
            refine AnyM.take (i := 4) (v := ?vb4) rfl (by kernel_rfl) (by kernel_rfl) rfl (by kernel_rfl) (by kernel_rfl) (fun _ _ _ h => h) (Or.inl ⟨by rfl, ?yb4⟩) hHeld ?rb4
            case yb4 => (intro w hSw; (try dsimp only at hSw); obtain ⟨hS1, hS2, hS3, hS4⟩ := hSw; go_simp; try with_reducible rfl)
            try simp only [Act.put, List.setIfInBounds_toArray, List.set_cons_zero, List.set_cons_succ, List.getElem_cons_zero, List.getElem_cons_succ, List.getElem_toArray]
            refine AnyM.take (i := 5) (v := ?vb5) rfl (by kernel_rfl) (by kernel_rfl) rfl (by kernel_rfl) (by kernel_rfl) (fun _ _ _ h => h) (Or.inl ⟨by rfl, ?yb5⟩) hHeld ?rb5
            case yb5 => (intro w hSw; (try dsimp only at hSw); obtain ⟨hS1, hS2, hS3, hS4⟩ := hSw; go_simp; try with_reducible rfl)
            try simp only [Act.put, List.setIfInBounds_toArray, List.set_cons_zero, List.set_cons_succ, List.getElem_cons_zero, List.getElem_cons_succ, List.getElem_toArray]
            refine AnyM.take (i := 6) (v := ?vb6) rfl (by kernel_rfl) (by kernel_rfl) rfl (by kernel_rfl) (by kernel_rfl) (fun _ _ _ h => h) (Or.inl ⟨by rfl, ?yb6⟩) hHeld ?rb6
            case yb6 => (intro w hSw; (try dsimp only at hSw); obtain ⟨hS1, hS2, hS3, hS4⟩ := hSw; go_simp; try with_reducible rfl)
            try simp only [Act.put, List.setIfInBounds_toArray, List.set_cons_zero, List.set_cons_succ, List.getElem_cons_zero, List.getElem_cons_succ, List.getElem_toArray]
            refine AnyM.take (i := 7) (v := ?vb7) rfl (by kernel_rfl) (by kernel_rfl) rfl (by kernel_rfl) (by kernel_rfl) (fun _ _ _ h => h) (Or.inl ⟨by rfl, ?yb7⟩) hHeld ?rb7
            case yb7 => (intro w hSw; (try dsimp only at hSw); obtain ⟨hS1, hS2, hS3, hS4⟩ := hSw; go_simp; try with_reducible rfl)
            try simp only [Act.put, List.setIfInBounds_toArray, List.set_cons_zero, List.set_cons_succ, List.getElem_cons_zero, List.getElem_cons_succ, List.getElem_toArray]
            refine AnyM.take (i := 8) (v := ?vb8) rfl (by kernel_rfl) (by kernel_rfl) rfl (by kernel_rfl) (by kernel_rfl) (fun _ _ _ h => h) (Or.inl ⟨by rfl, ?yb8⟩) hHeld ?rb8
            case yb8 => (intro w hSw; (try dsimp only at hSw); obtain ⟨hS1, hS2, hS3, hS4⟩ := hSw; go_simp; try with_reducible rfl)
            try simp only [Act.put, List.setIfInBounds_toArray, List.set_cons_zero, List.set_cons_succ, List.getElem_cons_zero, List.getElem_cons_succ, List.getElem_toArray]
            refine AnyM.take (i := 9) (v := ?vb9) rfl (by kernel_rfl) (by kernel_rfl) rfl (by kernel_rfl) (by kernel_rfl) (fun _ _ _ h => h) (Or.inl ⟨by rfl, ?yb9⟩) hHeld ?rb9
            case yb9 => (intro w hSw; (try dsimp only at hSw); obtain ⟨hS1, hS2, hS3, hS4⟩ := hSw; go_simp; try with_reducible rfl)
            try simp only [Act.put, List.setIfInBounds_toArray, List.set_cons_zero, List.set_cons_succ, List.getElem_cons_zero, List.getElem_cons_succ, List.getElem_toArray]
            refine AnyM.take (i := 10) (v := ?vb10) rfl (by kernel_rfl) (by kernel_rfl) rfl (by kernel_rfl) (by kernel_rfl) (fun _ _ _ h => h) (Or.inl ⟨by rfl, ?yb10⟩) hHeld ?rb10
            case yb10 => (intro w hSw; (try dsimp only at hSw); obtain ⟨hS1, hS2, hS3, hS4⟩ := hSw; go_simp; try with_reducible rfl)
            try simp only [Act.put, List.setIfInBounds_toArray, List.set_cons_zero, List.set_cons_succ, List.getElem_cons_zero, List.getElem_cons_succ, List.getElem_toArray]
            refine AnyM.take (i := 11) (v := ?vb11) rfl (by kernel_rfl) (by kernel_rfl) rfl (by kernel_rfl) (by kernel_rfl) (fun _ _ _ h => h) (Or.inl ⟨by rfl, ?yb11⟩) hHeld ?rb11
            case yb11 => (intro w hSw; (try dsimp only at hSw); obtain ⟨hS1, hS2, hS3, hS4⟩ := hSw; go_simp; try with_reducible rfl)
            try simp only [Act.put, List.setIfInBounds_toArray, List.set_cons_zero, List.set_cons_succ, List.getElem_cons_zero, List.getElem_cons_succ, List.getElem_toArray]
            refine AnyM.take (i := 12) (v := ?vb12) rfl (by kernel_rfl) (by kernel_rfl) rfl (by kernel_rfl) (by kernel_rfl) (fun _ _ _ h => h) (Or.inl ⟨by rfl, ?yb12⟩) hHeld ?rb12
            case yb12 => (intro w hSw; (try dsimp only at hSw); obtain ⟨hS1, hS2, hS3, hS4⟩ := hSw; go_simp; try with_reducible rfl)
            try simp only [Act.put, List.setIfInBounds_toArray, List.set_cons_zero, List.set_cons_succ, List.getElem_cons_zero, List.getElem_cons_succ, List.getElem_toArray]
            refine AnyM.take (i := 13) (v := ?vb13) rfl (by kernel_rfl) (by kernel_rfl) rfl (by kernel_rfl) (by kernel_rfl) (fun _ _ _ h => h) (Or.inl ⟨by rfl, ?yb13⟩) hHeld ?rb13
            case yb13 => (intro w hSw; (try dsimp only at hSw); obtain ⟨hS1, hS2, hS3, hS4⟩ := hSw; go_simp; try with_reducible rfl)
            try simp only [Act.put, List.setIfInBounds_toArray, List.set_cons_zero, List.set_cons_succ, List.getElem_cons_zero, List.getElem_cons_succ, List.getElem_toArray]
            refine AnyM.step (i := 14) (by kernel_rfl) rfl rfl (fun K hK => ?_)
            go_simp
            refine (copied_calls _ _ _ rb _ HBS2.out (by omega)).mono ?_
            rintro e w5 ⟨a3, c3, rfl, h2, h3, h4⟩
            have h3' := (Chg.drew NoB wr).trans h3
            rw [HRL.out] at h2 ⊢
            have HH2 := hide h2; clear h2
            have d1 : ∃ v, w5.cell? ⟨g, rp, none⟩ = some v := ⟨_, by rw [cell_of_row w5 _ _ _ _ _ (h3'.blk HG1.out (fun f => f))]; exact Array.getElem?_eq_getElem HG2.out⟩
            obtain ⟨vd, d1⟩ := d1
            have e1 : w5.frozen? ⟨g, rp, none⟩ = false := unfrozen (h3'.blk HG1.out (fun f => f)) rp
            clear hHeld
            refine hK.out _ _ (by first | exact HKEEP.out _ (Chg.drew _ _) | exact HKEEP.out _ h3') (fun hHeld => ?_)
            clear hK K
            try simp only [Act.put, List.setIfInBounds_toArray, List.set_cons_zero, List.set_cons_succ, List.getElem_cons_zero, List.getElem_cons_succ, List.getElem_toArray]
            refine AnyM.take (i := 15) (v := ?vb15) rfl (by kernel_rfl) (by kernel_rfl) rfl (by kernel_rfl) (by kernel_rfl) (fun _ _ _ h => h) (Or.inl ⟨by rfl, ?yb15⟩) hHeld ?rb15
            case yb15 => (intro w hSw; (try dsimp only at hSw); obtain ⟨hS1, hS2, hS3, hS4⟩ := hSw; go_simp; try with_reducible rfl)
            try simp only [Act.put, List.setIfInBounds_toArray, List.set_cons_zero, List.set_cons_succ, List.getElem_cons_zero, List.getElem_cons_succ, List.getElem_toArray]
            refine AnyM.last (i := 16) (by kernel_rfl) rfl rfl (fun K hK => ?_)
            go_simp
            refine hK.out _ _ ?_
            clear hK K
            try simp only [Act.put, List.setIfInBounds_toArray, List.set_cons_zero, List.set_cons_succ, List.getElem_cons_zero, List.getElem_cons_succ, List.getElem_toArray]
            refine AnyM.done (by kernel_rfl) ?_ _
            have hq4 : ∀ b, a3 = some b → wr.heap.size ≤ b.block := h4
            obtain ⟨gb', hOut⟩ := hO2.put (i := rp) (k' := n) hrn (by omega) (by omega) h3' (p := rb) HRL.out hS2.ca (by rw [HRL.out]; exact HH2.out) hq4
            have hOut2 := hOut.congr (pg' := fun j => (crashTo cl m.waiting m.base (k + 1)).getD j []) (fun i hi => by
              simp only [HST2.out]
              rw [getD_set _ _ _ _ (by rw [crashTo_length, HN.out]; exact hrn)])
            have hS3' := (hS2.same h3').pages hG (Chg.cell1 w5 g rp (.slice a3 512 c3)) (fun j hj => by have : j = g := hj; subst this; exact hO2.far _ rfl)
            clear hOut hS2 hO2 hHeld d1 e1 HG1 HG2 HKEEP
            go_wp2_with fail
            go_roundw
            case rel => exact ⟨k + 1, _, gb', by omega, by go_num, hS3', hOut2⟩
            case measure => simp [intOf]; omega
          · have hstep : crashTo cl m.waiting m.base (k + 1) = crashTo cl m.waiting m.base k := by rw [HST.out, if_neg hev]
            have hO3 : OutRow (CA w b5) wr (fun j => (crashTo cl m.waiting m.base (k + 1)).getD j []) n n (some ⟨g, 0, none⟩) bc pv gb := by rw [hstep]; exact hO2
            have HO3 := hide hO3
            clear hstep HST hO3 hO2
            have hb2 : (((chAt cl k : Nat) : Int) % 2 == 0) = false := beq_eq_false_iff_ne.2 (by omega)
            generalize chAt cl k = x at hb2 hxl HAT
            have hx0 : (0 : Int) ≤ (x : Int) := by omega
            have hx1 : (x : Int) ≤ 255 := by omega
            clear hev hxl
            go_wp2_with fail
            refine HAT.out.mono ?_
            rintro e w8 ⟨rfl, rfl⟩
            go_wp2_with fail
            go_roundw
            case rel => exact ⟨k + 1, pv, gb, by omega, by go_num, hS2, HO3.out⟩
            case measure => simp [intOf]; omega
        · obtain rfl : k = m.waiting.length := by omega
          clear hk hlt
          have HBB : Hid ((m.crash cl).base = match m.torn with
            | none => crashTo cl m.waiting m.base m.waiting.length
            | some (p, x) => (crashTo cl m.waiting m.base m.waiting.length).set p (x.take (128 * (chAt cl m.waiting.length / 2 % 5)) ++ ((crashTo cl m.waiting m.base m.waiting.length).getD p []).drop (128 * (chAt cl m.waiting.length / 2 % 5)))) := rfl
          have c12 := hS2.cd 12 (v := .bool m.torn.isSome) rfl
          generalize hbs : crashTo cl m.waiting m.base m.waiting.length = bs at HBB hO2
          have hbsl : bs.length = n := by rw [← hbs, crashTo_length]; exact HN.out
          have HBL := hide hbsl
          clear hbs hbsl o0 HBC
          cases ht : m.torn with
          | none =>
            rw [ht] at c12 HBB
            have HT := hide ht; clear ht
            have hST := hS2; have hOT := hO2
            clear hS2 hO2
            go_wp2_with fail
            have hll : m.log.length ≤ 16777216 := Nat.le_trans HOK.out.log HOK.out.room
            have hlt2 : m.log.length + m.tail.length ≤ 16777216 := Nat.le_trans HOK.out.tail HOK.out.room
            have hcer : m.certain ≤ m.log.length := HOK.out.certain
            have HKEEP := hide (fun w' (hc : Chg (fun j => wr.heap.size ≤ j) wr w') => And.intro ((hc.cell (p := ⟨w.heap.size, 3, none⟩) (heap_lt hST.d) (by have := heap_lt hST.d; simp; omega)).trans (hST.cd 3 (v := .slice L.la m.log.length L.lc) rfl)) ((hc.cell (p := ⟨w.heap.size, 11, none⟩) (heap_lt hST.d) (by have := heap_lt hST.d; simp; omega)).trans (hST.cd 11 (v := .slice L.ta m.tail.length L.tc) rfl)))
            have HLG := hide (hST.ref.log.chg0 (Chg.drew NoB wr))
            have HTL := hide (fun w' (hc : Chg NoB wr w') => hST.ref.tail.chg0 hc)
            have HNIL : Hid (L.ta = none → m.tail.length = 0 ∧ L.tc = 0) := fun e => by have h1 := hST.ref.tail.nil e; have h2 := hST.ref.tail.cap; exact ⟨by omega, h1⟩
            go_wp2_with fail
            refine AnyM.region (S := fun w' : World => w'.cell? ⟨w.heap.size, 3, none⟩ = some (.slice L.la m.log.length L.lc) ∧ w'.cell? ⟨w.heap.size, 11, none⟩ = some (.slice L.ta m.tail.length L.tc)) (late := fun _ => false) (by kernel_rfl) ?_
            have hHeld : (fun w' : World => w'.cell? ⟨w.heap.size, 3, none⟩ = some (.slice L.la m.log.length L.lc) ∧ w'.cell? ⟨w.heap.size, 11, none⟩ = some (.slice L.ta m.tail.length L.tc)) _ := HKEEP.out _ (Chg.drew _ _)
            refine AnyM.take (i := 0) (v := ?vnc0) rfl (by kernel_rfl) (by kernel_rfl) rfl (by kernel_rfl) (by kernel_rfl) (fun _ _ _ h => h) (Or.inl ⟨by rfl, ?ync0⟩) hHeld ?rnc0
            case ync0 => (intro w hSw; (try dsimp only at hSw); obtain ⟨hS1, hS2⟩ := hSw; go_simp; try with_reducible rfl)
            try simp only [Act.put, List.setIfInBounds_toArray, List.set_cons_zero, List.set_cons_succ, List.getElem_cons_zero, List.getElem_cons_succ, List.getElem_toArray]
            refine AnyM.take (i := 1) (v := ?vnc1) rfl (by kernel_rfl) (by kernel_rfl) rfl (by kernel_rfl) (by kernel_rfl) (fun _ _ _ h => h) (Or.inl ⟨by rfl, ?ync1⟩) hHeld ?rnc1
            case ync1 => (intro w hSw; (try dsimp only at hSw); obtain ⟨hS1, hS2⟩ := hSw; go_simp; try with_reducible rfl)
            try simp only [Act.put, List.setIfInBounds_toArray, List.set_cons_zero, List.set_cons_succ, List.getElem_cons_zero, List.getElem_cons_succ, List.getElem_toArray]
            refine AnyM.take (i := 3) (v := ?vnc3) rfl (by kernel_rfl) (by kernel_rfl) rfl (by kernel_rfl) (by kernel_rfl) (fun _ _ _ h => h) (Or.inl ⟨by rfl, ?ync3⟩) hHeld ?rnc3
            case ync3 => (intro w hSw; (try dsimp only at hSw); obtain ⟨hS1, hS2⟩ := hSw; go_simp; try with_reducible rfl)
            try simp only [Act.put, List.setIfInBounds_toArray, List.set_cons_zero, List.set_cons_succ, List.getElem_cons_zero, List.getElem_cons_succ, List.getElem_toArray]
            refine AnyM.take (i := 4) (v := ?vnc4) rfl (by kernel_rfl) (by kernel_rfl) rfl (by kernel_rfl) (by kernel_rfl) (fun _ _ _ h => h) (Or.inl ⟨by rfl, ?ync4⟩) hHeld ?rnc4
            case ync4 => (intro w hSw; (try dsimp only at hSw); obtain ⟨hS1, hS2⟩ := hSw; go_simp; try with_reducible rfl)
            try simp only [Act.put, List.setIfInBounds_toArray, List.set_cons_zero, List.set_cons_succ, List.getElem_cons_zero, List.getElem_cons_succ, List.getElem_toArray]
            refine AnyM.step (i := 2) (by kernel_rfl) rfl rfl (fun K hK => ?_)
            go_simp
            refine (copied_calls _ _ _ m.log _ HLG.out (by omega)).mono ?_
            rintro e w5 ⟨a3, c3, rfl, h2, h3, h4⟩
            have h3' := (Chg.drew NoB wr).trans h3
            have HH2 := hide h2; clear h2
            have h4' : ∀ b, a3 = some b → wr.heap.size ≤ b.block := h4
            clear hHeld
            refine hK.out _ _ (by first | exact HKEEP.out _ (Chg.drew _ _) | exact HKEEP.out _ (h3'.mono (fun _ f => f.elim)) | exact HKEEP.out _ hk6) (fun hHeld => ?_)
            clear hK K
            try simp only [Act.put, List.setIfInBounds_toArray, List.set_cons_zero, List.set_cons_succ, List.getElem_cons_zero, List.getElem_cons_succ, List.getElem_toArray]
            refine AnyM.step (i := 5) (by kernel_rfl) rfl rfl (fun K hK => ?_)
            refine step_app_own rfl (.tmp 95) (.tmp 97) 28 rfl 5 iu (.int .u8 0) 1 1 Try.underlying28 hu hu0 hu1 hu2 rfl (by decide) a3 m.log.length c3 (bcells m.log) rfl HH2.out L.ta m.tail.length L.tc (bcells m.tail) rfl HNIL.out (by rw [bcells_length, Nat.mul_one]) (HTL.out _ h3').cell (bcells_one _) (by unfold maxLen; omega) (by omega) ?_
            intro a6 c6 w6 hr6 hc6 hat6
            have hF6 : ∀ j, (∃ b, a3 = some b ∧ b.block = j) → wr.heap.size ≤ j := by rintro j ⟨b, hb, rfl⟩; exact h4' b hb
            have hk6 : Chg (fun j => wr.heap.size ≤ j) wr w6 := (h3'.mono (fun _ f => f.elim)).trans (hc6.mono hF6)
            clear hHeld
            refine hK.out _ _ (by first | exact HKEEP.out _ (Chg.drew _ _) | exact HKEEP.out _ (h3'.mono (fun _ f => f.elim)) | exact HKEEP.out _ hk6) (fun hHeld => ?_)
            clear hK K
            try simp only [Act.put, List.setIfInBounds_toArray, List.set_cons_zero, List.set_cons_succ, List.getElem_cons_zero, List.getElem_cons_succ, List.getElem_toArray]
            refine AnyM.take (i := 6) (v := ?vnc6) rfl (by kernel_rfl) (by kernel_rfl) rfl (by kernel_rfl) (by kernel_rfl) (fun _ _ _ h => h) (Or.inl ⟨by rfl, ?ync6⟩) hHeld ?rnc6
            case ync6 => (intro w hSw; (try dsimp only at hSw); obtain ⟨hS1, hS2⟩ := hSw; go_simp; try with_reducible rfl)
            try simp only [Act.put, List.setIfInBounds_toArray, List.set_cons_zero, List.set_cons_succ, List.getElem_cons_zero, List.getElem_cons_succ, List.getElem_toArray]
            refine AnyM.done (by kernel_rfl) ?_ _
            have hS6 := hST.pages hG hk6 hST.ca
            have hO6 := hOT.news hk6 (fun _ h => h)
            rw [← bcells_append] at hr6
            have hall : BS w6 a6 (m.log.length + m.tail.length) c6 (m.log ++ m.tail) := BS.own hr6
            have hallen : (m.log ++ m.tail).length = m.log.length + m.tail.length := List.length_append
            have hcrl := m.crash_all cl hcer
            rw [hallen] at hcrl
            clear HKEEP HLG HTL HNIL hr6 hc6 hat6 hk6 hF6 h3 h3' h4 h4' HH2 hHeld hST hOT
            have hBC := HBS.out w6 (hS6.chg.mono (fun _ f => f.elim))
            have HA0 := hide (fun w' (hc : Chg NoB w6 w') => atR_calls ca cn cc cl 0 w' (hBC.chg0 hc))
            have HA1 := hide (fun w' (hc : Chg NoB w6 w') => atR_calls ca cn cc cl 1 w' (hBC.chg0 hc))
            obtain ⟨kk, hkk⟩ : ∃ kk, kk = (chAt cl 0 + 256 * chAt cl 1) % (m.log.length + m.tail.length - m.certain + 1) := ⟨_, rfl⟩
            have hkI : ((chAt cl 0 : Int) + 256 * (chAt cl 1 : Int)) % (((m.log.length + m.tail.length : Nat) : Int) - (m.certain : Int) + 1) = (kk : Int) := by
              rw [hkk, Int.natCast_emod]; congr 1; omega
            have hkle : kk ≤ m.log.length + m.tail.length - m.certain := by have := Nat.mod_lt (chAt cl 0 + 256 * chAt cl 1) (show 0 < m.log.length + m.tail.length - m.certain + 1 by omega); omega
            rw [← hkk] at hcrl
            have HCRL := hide hcrl
            have hx0 := chAt_lt cl 0
            have hx1 := chAt_lt cl 1
            clear hcrl hkk hBC
            generalize chAt cl 0 = x0 at HA0 hx0 hkI
            generalize chAt cl 1 = x1 at HA1 hx1 hkI
            have hy0 : (0 : Int) ≤ (x0 : Int) := by omega
            have hy1 : (x0 : Int) ≤ 255 := by omega
            have hy2 : (0 : Int) ≤ (x1 : Int) := by omega
            have hy3 : (x1 : Int) ≤ 255 := by omega
            clear hx0 hx1
            have HALEN := hide hallen
            generalize hlae : m.log.length + m.tail.length = la at hall hkI hkle hlt2 HALEN
            have hcl2 : m.certain ≤ la := by omega
            have HLAE := hide hlae
            have HKEEP := hide (fun w' (hc : Chg NoB w6 w') => (hS6.same hc).cd 4 (v := .int .i64 m.certain) rfl)
            have HALL := hide hall
            clear hlae hallen hall
            have hcl3 : (m.certain : Int) ≤ (la : Int) := by omega
            have hla2 : (la : Int) ≤ 16777216 := by omega
            have hkT : ((x0 : Int) + 256 * (x1 : Int)).tmod ((la : Int) - (m.certain : Int) + 1) = (kk : Int) := by rw [Int.tmod_eq_emod_of_nonneg (by omega)]; exact hkI
            have hnz : ((la : Int) - (m.certain : Int) + 1 = 0) = False := by simp; omega
            have hw1 : IntKind.i64.wrap (256 * (x1 : Int)) = 256 * (x1 : Int) := IntWalk.i64_in _ (by omega)
            have hw2 : IntKind.i64.wrap ((x0 : Int) + 256 * (x1 : Int)) = (x0 : Int) + 256 * (x1 : Int) := IntWalk.i64_in _ (by omega)
            have hw3 : IntKind.i64.wrap ((la : Int) - (m.certain : Int)) = (la : Int) - (m.certain : Int) := IntWalk.i64_in _ (by omega)
            have hw4 : IntKind.i64.wrap ((la : Int) - (m.certain : Int) + 1) = (la : Int) - (m.certain : Int) + 1 := IntWalk.i64_in _ (by omega)
            have HW := hide (And.intro hw1 (And.intro hw2 (And.intro hw3 (And.intro hw4 (And.intro hkT hnz)))))
            clear hw1 hw2 hw3 hw4 hkT hnz hkI
            go_wp2_with fail
            obtain ⟨hw1, hw2, hw3, hw4, hkT, hnz⟩ := HW.out
            refine AnyM.region (S := fun w' : World => w'.cell? ⟨w.heap.size, 4, none⟩ = some (.int .i64 m.certain)) (late := fun _ => false) (by kernel_rfl) ?_
            have hHeld : (fun w' : World => w'.cell? ⟨w.heap.size, 4, none⟩ = some (.int .i64 m.certain)) _ := HKEEP.out _ (Chg.drew _ _)
            refine AnyM.take (i := 0) (v := ?vnd0) rfl (by kernel_rfl) (by kernel_rfl) rfl (by kernel_rfl) (by kernel_rfl) (fun _ _ _ h => h) (Or.inl ⟨by rfl, ?ynd0⟩) hHeld ?rnd0
            case ynd0 => (intro w hSw; (try dsimp only at hSw); go_simp; try with_reducible rfl)
            try simp only [Act.put, List.setIfInBounds_toArray, List.set_cons_zero, List.set_cons_succ, List.getElem_cons_zero, List.getElem_cons_succ, List.getElem_toArray]
            refine AnyM.take (i := 2) (v := ?vnd2) rfl (by kernel_rfl) (by kernel_rfl) rfl (by kernel_rfl) (by kernel_rfl) (fun _ _ _ h => h) (Or.inl ⟨by rfl, ?ynd2⟩) hHeld ?rnd2
            case ynd2 => (intro w hSw; (try dsimp only at hSw); go_simp; try with_reducible rfl)
            try simp only [Act.put, List.setIfInBounds_toArray, List.set_cons_zero, List.set_cons_succ, List.getElem_cons_zero, List.getElem_cons_succ, List.getElem_toArray]
            refine AnyM.take (i := 6) (v := ?vnd6) rfl (by kernel_rfl) (by kernel_rfl) rfl (by kernel_rfl) (by kernel_rfl) (fun _ _ _ h => h) (Or.inl ⟨by rfl, ?ynd6⟩) hHeld ?rnd6
            case ynd6 => (intro w hSw; (try dsimp only at hSw); go_simp; try with_reducible rfl)
            try simp only [Act.put, List.setIfInBounds_toArray, List.set_cons_zero, List.set_cons_succ, List.getElem_cons_zero, List.getElem_cons_succ, List.getElem_toArray]
            refine AnyM.take (i := 7) (v := ?vnd7) rfl (by kernel_rfl) (by kernel_rfl) rfl (by kernel_rfl) (by kernel_rfl) (fun _ _ _ h => h) (Or.inl ⟨by rfl, ?ynd7⟩) hHeld ?rnd7
            case ynd7 => (intro w hSw; (try dsimp only at hSw); go_simp; try with_reducible rfl)
            try simp only [Act.put, List.setIfInBounds_toArray, List.set_cons_zero, List.set_cons_succ, List.getElem_cons_zero, List.getElem_cons_succ, List.getElem_toArray]
            refine AnyM.take (i := 8) (v := ?vnd8) rfl (by kernel_rfl) (by kernel_rfl) rfl (by kernel_rfl) (by kernel_rfl) (fun _ _ _ h => h) (Or.inl ⟨by rfl, ?ynd8⟩) hHeld ?rnd8
            case ynd8 => (intro w hSw; (try dsimp only at hSw); go_simp; try with_reducible rfl)
            try simp only [Act.put, List.setIfInBounds_toArray, List.set_cons_zero, List.set_cons_succ, List.getElem_cons_zero, List.getElem_cons_succ, List.getElem_toArray]
            refine AnyM.take (i := 9) (v := ?vnd9) rfl (by kernel_rfl) (by kernel_rfl) rfl (by kernel_rfl) (by kernel_rfl) (fun _ _ _ h => h) (Or.inl ⟨by rfl, ?ynd9⟩) hHeld ?rnd9
            case ynd9 => (intro w hSw; (try dsimp only at hSw); go_simp; try with_reducible rfl)
            try simp only [Act.put, List.setIfInBounds_toArray, List.set_cons_zero, List.set_cons_succ, List.getElem_cons_zero, List.getElem_cons_succ, List.getElem_toArray]
            refine AnyM.take (i := 10) (v := ?vnd10) rfl (by kernel_rfl) (by kernel_rfl) rfl (by kernel_rfl) (by kernel_rfl) (fun _ _ _ h => h) (Or.inl ⟨by rfl, ?ynd10⟩) hHeld ?rnd10
            case ynd10 => (intro w hSw; (try dsimp only at hSw); go_simp; try with_reducible rfl)
            try simp only [Act.put, List.setIfInBounds_toArray, List.set_cons_zero, List.set_cons_succ, List.getElem_cons_zero, List.getElem_cons_succ, List.getElem_toArray]
            refine AnyM.take (i := 11) (v := ?vnd11) rfl (by kernel_rfl) (by kernel_rfl) rfl (by kernel_rfl) (by kernel_rfl) (fun _ _ _ h => h) (Or.inl ⟨by rfl, ?ynd11⟩) hHeld ?rnd11
            case ynd11 => (intro w hSw; (try dsimp only at hSw); go_simp; try with_reducible rfl)
            try simp only [Act.put, List.setIfInBounds_toArray, List.set_cons_zero, List.set_cons_succ, List.getElem_cons_zero, List.getElem_cons_succ, List.getElem_toArray]
            refine AnyM.step (i := 1) (by kernel_rfl) rfl rfl (fun K hK => ?_)
            go_simp
            refine (HA0.out _ (Chg.drew NoB w6)).mono ?_
            rintro e w8 ⟨rfl, rfl⟩
            clear hHeld
            refine hK.out _ _ (by first | exact HKEEP.out _ (Chg.drew _ _)) (fun hHeld => ?_)
            clear hK K
            try simp only [Act.put, List.setIfInBounds_toArray, List.set_cons_zero, List.set_cons_succ, List.getElem_cons_zero, List.getElem_cons_succ, List.getElem_toArray]
            refine AnyM.step (i := 3) (by kernel_rfl) rfl rfl (fun K hK => ?_)
            go_simp
            refine (HA1.out _ (Chg.drew NoB w6)).mono ?_
            rintro e w8 ⟨rfl, rfl⟩
            clear hHeld
            refine hK.out _ _ (by first | exact HKEEP.out _ (Chg.drew _ _)) (fun hHeld => ?_)
            clear hK K
            try simp only [Act.put, List.setIfInBounds_toArray, List.set_cons_zero, List.set_cons_succ, List.getElem_cons_zero, List.getElem_cons_succ, List.getElem_toArray]
            refine AnyM.take (i := 4) (v := ?vnd4) rfl (by kernel_rfl) (by kernel_rfl) rfl (by kernel_rfl) (by kernel_rfl) (fun _ _ _ h => h) (Or.inl ⟨by rfl, ?ynd4⟩) hHeld ?rnd4
            case ynd4 => (intro w hSw; (try dsimp only at hSw); go_simp; try with_reducible rfl)
            try simp only [Act.put, List.setIfInBounds_toArray, List.set_cons_zero, List.set_cons_succ, List.getElem_cons_zero, List.getElem_cons_succ, List.getElem_toArray]
            refine AnyM.take (i := 5) (v := ?vnd5) rfl (by kernel_rfl) (by kernel_rfl) rfl (by kernel_rfl) (by kernel_rfl) (fun _ _ _ h => h) (Or.inl ⟨by rfl, ?ynd5⟩) hHeld ?rnd5
            case ynd5 => (intro w hSw; (try dsimp only at hSw); go_simp; try with_reducible rfl)
            try simp only [Act.put, List.setIfInBounds_toArray, List.set_cons_zero, List.set_cons_succ, List.getElem_cons_zero, List.getElem_cons_succ, List.getElem_toArray]
            refine AnyM.take (i := 12) (v := ?vnd12) rfl (by kernel_rfl) (by kernel_rfl) rfl (by kernel_rfl) (by kernel_rfl) (fun _ _ _ h => h) (Or.inl ⟨by rfl, ?ynd12⟩) hHeld ?rnd12
            case ynd12 => (intro w hSw; (try dsimp only at hSw); go_simp; try with_reducible rfl)
            try simp only [Act.put, List.setIfInBounds_toArray, List.set_cons_zero, List.set_cons_succ, List.getElem_cons_zero, List.getElem_cons_succ, List.getElem_toArray]
            refine AnyM.take (i := 13) (v := ?vnd13) rfl (by kernel_rfl) (by kernel_rfl) rfl (by kernel_rfl) (by kernel_rfl) (fun _ _ _ h => h) (Or.inl ⟨by rfl, ?ynd13⟩) hHeld ?rnd13
            case ynd13 => (intro w hSw; (try dsimp only at hSw); go_simp; try with_reducible rfl)
            try simp only [Act.put, List.setIfInBounds_toArray, List.set_cons_zero, List.set_cons_succ, List.getElem_cons_zero, List.getElem_cons_succ, List.getElem_toArray]
            refine AnyM.done (by kernel_rfl) ?_ _
            clear hw1 hw2 hw3 hw4 hkT hnz HW hHeld HKEEP HA0 HA1
            have hcw := Chg.drew NoB w6
            have hS7 := hS6.same hcw
            have hO7 := hO6.chg0 hcw
            have hALL := HALL.out.chg0 hcw
            generalize w6.drew = w7 at hS7 hO7 hALL ⊢
            clear hcw hS6 hO6 HALL
            have c4 := hS7.cd 4 (v := .int .i64 m.certain) rfl
            have hsum : m.certain + kk ≤ la := by omega
            have hT := hALL.take hsum
            have hca := hALL.cap
            have q1 : (0 : Int) ≤ (m.certain : Int) + (kk : Int) := by omega
            have q2 : (m.certain : Int) + (kk : Int) ≤ (c6 : Int) := by omega
            have q3 : ((m.certain : Int) + (kk : Int)).toNat = m.certain + kk := by omega
            have hTl : ((m.log ++ m.tail).take (m.certain + kk)).length = m.certain + kk := by rw [List.length_take, HALEN.out]; omega
            have HT2 := hide hT; have HTL2 := hide hTl; clear hT hTl hALL
            go_wp2_with fail
            refine (copied_calls _ _ _ _ _ HT2.out (by omega)).mono ?_
            rintro e w8 ⟨a8, c8, rfl, h2, h3, h4⟩
            rw [HTL2.out] at h2 ⊢
            have hS8 := hS7.same h3
            have hO8 := hO7.chg0 h3
            have HH2 := hide h2; clear h2 c4
            have h48 : ∀ b, a8 = some b → w.heap.size + 2 ≤ b.block ∧ b.block ≠ b5 := fun b hb => hS7.ca _ (h4 b hb)
            have o3 := hS8.co 3 (v := .slice none 0 0) rfl
            have f3 := hS8.fo 3
            have hcs3 := Chg.cell1 w8 b5 3 (.slice a8 (m.certain + kk) c8)
            have hS9 := hS8.set hG 3 (.slice a8 (m.certain + kk) c8)
            have hO9 := hO8.chg hcs3 CA.no
            have hL9 := (BS.own HH2.out).chg hcs3 (fun b hb => (h48 b hb).2)
            have p3 := hS9.co 3 (v := .slice a8 (m.certain + kk) c8) rfl
            have p4 := hS9.co 4 (v := .int .i64 0) rfl
            have e4 := hS9.fo 4
            have hcs4 := Chg.cell1 (w8.setCell ⟨b5, 3, none⟩ (.slice a8 (m.certain + kk) c8)) b5 4 (.int .i64 ((m.certain : Int) + (kk : Int)))
            have hS10 := hS9.set hG 4 (.int .i64 ((m.certain : Int) + (kk : Int)))
            have hO10 := hO9.chg hcs4 CA.no
            have hL10 := hL9.chg hcs4 (fun b hb => (h48 b hb).2)
            have d5 := hS10.cd 5 (v := .slice L.ma m.mark.length L.mc) rfl
            clear hS7 hO7 hS8 hO8 hS9 hO9 hL9 hcs3 hcs4 HT2
            generalize hwe : (w8.setCell ⟨b5, 3, none⟩ (.slice a8 (m.certain + kk) c8)).setCell ⟨b5, 4, none⟩ (.int .i64 ((m.certain : Int) + (kk : Int))) = w10 at hS10 hO10 hL10 d5
            have HWE := hide hwe; clear hwe
            have hS10' := hide hS10; have hO10' := hide hO10; have hL10' := hide hL10
            clear hS10 hO10 hL10
            have d5' := d5
            rw [← HWE.out] at d5
            have hmk64 : m.mark.length ≤ 64 := HOK.out.mark
            go_wp2_with fail
            rw [HWE.out]
            clear d5 d5' p3 p4 e4 o3 f3 HWE
            refine (copied_calls _ _ _ _ _ hS10'.out.ref.mark (by omega)).mono ?_
            rintro e w11 ⟨a11, c11, rfl, h5, h6, h7⟩
            have hS11 := hS10'.out.same h6
            have hO11 := hO10'.out.chg0 h6
            have hL11 := hL10'.out.chg0 h6
            have HH5 := hide h5; clear h5
            have h711 : ∀ b, a11 = some b → w.heap.size + 2 ≤ b.block ∧ b.block ≠ b5 := fun b hb => hS10'.out.ca _ (h7 b hb)
            have o5 := hS11.co 5 (v := .slice none 0 0) rfl
            have f5 := hS11.fo 5
            have hcs5 := Chg.cell1 w11 b5 5 (.slice a11 m.mark.length c11)
            have hS12 := hS11.set hG 5 (.slice a11 m.mark.length c11)
            have hO12 := hO11.chg hcs5 CA.no
            have hL12 := hL11.chg hcs5 (fun b hb => (h48 b hb).2)
            have hM12 := (BS.own HH5.out).chg hcs5 (fun b hb => (h711 b hb).2)
            have hbs0 : (m.crash cl).base = bs := HBB.out
            have hlg0 : (m.crash cl).log = (m.log ++ m.tail).take (m.certain + kk) := HCRL.out
            have hce := DM.crash_eq m cl hbs0 hlg0
            have hcur : ((((newCells (some ⟨g, 0, none⟩) n bc m.room).setIfInBounds 3 (.slice a8 (m.certain + kk) c8)).setIfInBounds 4 (.int .i64 ((m.certain : Int) + (kk : Int)))).setIfInBounds 5 (.slice a11 m.mark.length c11)) = rcells (m.crashM bs ((m.log ++ m.tail).take (m.certain + kk))) (RL.crashed g bc pv a8 c8 a11 c11) := by
              simp [newCells, rcells, DM.crashM, RL.crashed, RL.fresh, HBL.out, HTL2.out]
            have hrf := crash_ref (m := m) hO12 HBL.out (fun p hp => HOKC.out.page p (by rw [hbs0]; exact hp)) (by rw [HTL2.out]; exact hL12) (fun b hb => (h48 b hb).1) hM12 (fun b hb => (h711 b hb).1)
            have HO12 := hide (And.intro hS12.o hS12.sz)
            obtain ⟨cs, hr1, hr2⟩ := hS12.r
            have hc12 := hS12.chg
            have HR := hide (And.intro hr1 hr2)
            have HCUR := hide hcur; have HRF := hide hrf; have HCE := hide hce
            have ho12 : (rcells (m.crashM bs ((m.log ++ m.tail).take (m.certain + kk))) (RL.crashed g bc pv a8 c8 a11 c11)).all (·.oneCell') = true := rcells_one _ _
            rw [← hcur] at ho12
            have HON := hide ho12
            clear hr1 hr2 hcur hrf hce hbs0 hlg0 hO12 hL12 hM12 hS12 hO11 hL11 hS11 ho12
            go_wp2_with (first | (refine wpList_ldR rfl (.tmp 5) rfl b5 rfl _ HO12.out.1 HO12.out.2 ?_) | (refine wpList_stR rfl (.tmp 4) (.tmp 128) rfl (w.heap.size + 1) rfl cs _ rfl HR.out.1 HR.out.2 HO12.out.2 HON.out ?_))
            rw [HCUR.out, HCE.out]
            have hcz := Chg.setRow1 (w11.setCell ⟨b5, 5, none⟩ (.slice a11 m.mark.length c11)) (w.heap.size + 1) (rcells (m.crashM bs ((m.log ++ m.tail).take (m.certain + kk))) (RL.crashed g bc pv a8 c8 a11 c11))
            exact ⟨rfl, _, results_cell_row (P := Try.prog) (ty := 52) rfl _ _ (w.heap.size + 1) _ _ _ _ rfl (setRow_heap _ _ _ _ _ _ HR.out.1) Try.underlying52 rfl infoRf, _, rfl, (HRF.out.chg hcz (fun k hk e => by have : k = w.heap.size + 1 := e; omega)).mono (fun k hk => by omega), hc12.trans' hcz (fun i hi => .inr (by omega))⟩
          | some pt =>
            obtain ⟨p, x⟩ := pt
            rw [ht] at c12 HBB
            obtain ⟨hpn2, hx512⟩ := HOK.out.torn p x ht
            rw [HN.out] at hpn2
            obtain ⟨hlp, ta, tc, hte, htb, htG⟩ := hS2.ref.torn p x ht
            simp only [Value.slice.injEq] at hte
            obtain ⟨hka, hkn, hkc⟩ := hte
            subst hka hkc
            obtain ⟨gk, ok, hLka, hxc⟩ := htb.form (by omega)
            have HLP := hide hlp; have HLKA := hide hLka; have HLKN := hide (hkn.trans hx512)
            have hxc' := fun j (hj : j < 512) => hxc j (by omega)
            have HXC := hide hxc'
            have HT := hide ht
            clear ht hlp hLka hkn hxc hxc' htb htG
            have c1 := hS2.cd 1 (v := .slice L.wa m.waiting.length L.wc) rfl
            have HAT := hide (atR_calls ca cn cc cl m.waiting.length wr (HBS.out wr (hS2.chg.mono (fun _ f => f.elim))))
            have hxl := chAt_lt cl m.waiting.length
            obtain ⟨k0, hk0⟩ : ∃ k0, k0 = chAt cl m.waiting.length / 2 % 5 := ⟨_, rfl⟩
            rw [← hk0] at HBB
            have hk0I : ((chAt cl m.waiting.length : Nat) : Int) / 2 % 5 = (k0 : Int) := by rw [hk0]; omega
            have hk4 : k0 ≤ 4 := by omega
            clear hk0
            generalize chAt cl m.waiting.length = x0 at hk0I hxl HAT
            have hy0 : (0 : Int) ≤ (x0 : Int) := by omega
            have hy1 : (x0 : Int) ≤ 255 := by omega
            clear hxl
            go_wp2_with fail
            refine HAT.out.mono ?_
            rintro e w8 ⟨rfl, rfl⟩
            go_wp2_with fail
            simp only [hk0I]
            clear hk0I
            obtain ⟨wq, rfl⟩ : ∃ wq : World, wq = wr := ⟨_, rfl⟩
            go_loopw [9] (fun v wr => ∃ (i : Nat), i ≤ 128 * k0 ∧ v = .int .i64 i ∧ CrS w wr G m L b5 (newCells (some ⟨g, 0, none⟩) n bc m.room) ∧ OutRow (CA w b5) wr (fun j => if j = p then x.take i ++ (bs.getD p []).drop i else bs.getD j []) n n (some ⟨g, 0, none⟩) bc pv gb) (fun v _ => 128 * k0 - (intOf v).toNat)
            case atStart => exact ⟨0, by omega, rfl, hS2, hO2.congr (fun i _ => by by_cases h : i = p <;> simp [h])⟩
            case round =>
              obtain ⟨i, hi, rfl, hS3, hO3⟩ := hrel
              clear hS2 hO2 c1 c12
              by_cases hlt : i < 128 * k0
              · have hlt' : (i : Int) < 128 * (k0 : Int) := by omega
                have hi512 : i < 512 := by omega
                have o0 := hS3.co 0 (v := .slice (some ⟨g, 0, none⟩) n bc) rfl
                have d9 := hS3.cd 9 (v := .int .i64 L.lp) rfl
                rw [HLP.out] at d9
                have d10 := hS3.cd 10 (v := .slice L.ka L.kn L.kc) rfl
                rw [HLKN.out] at d10
                obtain ⟨cp, r1, r2, r3, r4⟩ := hO3.page p hpn2
                have hbase := (CR.own hO3.row).cell _ rfl p _ r1
                rw [add_zero_off] at hbase
                have hxb : wr.cell? ⟨gk, ok + i, none⟩ = some (.int .u8 (x.getD i 0).toNat) := by
                  obtain ⟨a1, c1', e1, e2, _⟩ := (hS3.ref.torn p x HT.out).2
                  simp only [Value.slice.injEq] at e1
                  obtain ⟨e1, _, _⟩ := e1
                  subst e1
                  have := e2.cell _ HLKA.out i (bcell (x.getD i 0)) (by simp [bcells, show i < x.length by omega, bcell])
                  rwa [show (⟨gk, ok, none⟩ : Addr).add i = ⟨gk, ok + i, none⟩ by unfold Addr.add; split <;> simp_all] at this
                rw [HLKA.out] at d10
                obtain ⟨gq, curp, hgp, _, hgpb, h512c, hgps, _⟩ := row_block r3 (by omega)
                have hgp' : gq = gb p := by simpa using hgp.symm
                subst hgp'
                have hcv : ∃ v, wr.cell? ⟨gb p, i, none⟩ = some v := ⟨_, by rw [cell_of_row wr _ _ _ _ _ hgpb]; exact Array.getElem?_eq_getElem (show i < curp.size by omega)⟩
                obtain ⟨vq, hcv⟩ := hcv
                have hfv : wr.frozen? ⟨gb p, i, none⟩ = false := unfrozen hgpb i
                have hpI : (p : Int) < (n : Int) := by omega
                have hp0 : (0 : Int) ≤ (p : Int) := by omega
                have hiI : (i : Int) < (512 : Int) := by omega
                have hi0 : (0 : Int) ≤ (i : Int) := by omega
                have hpk := hO3.poke hpn2 hi512 (x.getD i 0)
                have hol : ((bs.getD p []).length) = x.length := by
                  have h1 := r3.1
                  simp only [if_true, bcells_length] at h1
                  rw [List.length_append, List.length_take, List.length_drop] at h1
                  omega
                have hspl := splice_set x (bs.getD p []) i (by omega) hol
                have hO4 := hpk.congr (pg' := fun j => if j = p then x.take (i + 1) ++ (bs.getD p []).drop (i + 1) else bs.getD j []) (fun j _ => by
                  by_cases h : j = p
                  · subst h; simp only [if_true]; exact hspl
                  · simp only [if_neg h])
                have hS4 : CrS w (wr.setCell ⟨gb p, i, none⟩ (.int .u8 ((x.getD i 0).toNat : Int))) G m L b5 (newCells (some ⟨g, 0, none⟩) n bc m.room) := hS3.pages hG (Chg.cell1 wr (gb p) i (bcell (x.getD i 0))) (fun j hj => by have : j = gb p := hj; subst this; exact r2)
                have hO5 : OutRow (CA w b5) (wr.setCell ⟨gb p, i, none⟩ (.int .u8 ((x.getD i 0).toNat : Int))) (fun j => if j = p then x.take (i + 1) ++ (bs.getD p []).drop (i + 1) else bs.getD j []) n n (some ⟨g, 0, none⟩) bc pv gb := hO4
                have HO4 := hide hO5; have HS4 := hide hS4
                generalize hxv : ((x.getD i 0).toNat) = xv at hxb HO4 HS4
                clear hgpb hgps h512c hgp r1 r2 r3 r4 hpk hol hspl hO4 hO5 hS4 hO3 hS3 hxv hi512
                go_wp2_with fail
                go_still_tail 15, (by kernel_rfl)
                go_wp2_with fail
                go_roundw
                case rel => exact ⟨i + 1, by omega, by go_num, HS4.out.same (Chg.drew NoB _), HO4.out.chg0 (Chg.drew NoB _)⟩
                case measure => simp [intOf]; omega
              · obtain rfl : i = 128 * k0 := by omega
                clear hi hlt
                have hO4 := hO3.congr (pg' := fun j => (bs.set p (x.take (128 * k0) ++ (bs.getD p []).drop (128 * k0))).getD j []) (fun j _ => by
                  rw [getD_set _ _ _ _ (by rw [HBL.out]; exact hpn2)])
                have hbl2 : (bs.set p (x.take (128 * k0) ++ (bs.getD p []).drop (128 * k0))).length = n := by rw [List.length_set]; exact HBL.out
                clear HBL hO3
                generalize bs.set p (x.take (128 * k0) ++ (bs.getD p []).drop (128 * k0)) = bs at hO4 hbl2 HBB
                have HBL := hide hbl2; clear hbl2
                have hST := hS3; have hOT := hO4
                clear hS3 hO4
                go_wp2_with fail
                have hll : m.log.length ≤ 16777216 := Nat.le_trans HOK.out.log HOK.out.room
                have hlt2 : m.log.length + m.tail.length ≤ 16777216 := Nat.le_trans HOK.out.tail HOK.out.room
                have hcer : m.certain ≤ m.log.length := HOK.out.certain
                have HKEEP := hide (fun w' (hc : Chg (fun j => wr.heap.size ≤ j) wr w') => And.intro ((hc.cell (p := ⟨w.heap.size, 3, none⟩) (heap_lt hST.d) (by have := heap_lt hST.d; simp; omega)).trans (hST.cd 3 (v := .slice L.la m.log.length L.lc) rfl)) ((hc.cell (p := ⟨w.heap.size, 11, none⟩) (heap_lt hST.d) (by have := heap_lt hST.d; simp; omega)).trans (hST.cd 11 (v := .slice L.ta m.tail.length L.tc) rfl)))
                have HLG := hide (hST.ref.log.chg0 (Chg.drew NoB wr))
                have HTL := hide (fun w' (hc : Chg NoB wr w') => hST.ref.tail.chg0 hc)
                have HNIL : Hid (L.ta = none → m.tail.length = 0 ∧ L.tc = 0) := fun e => by have h1 := hST.ref.tail.nil e; have h2 := hST.ref.tail.cap; exact ⟨by omega, h1⟩
                go_wp2_with fail
                refine AnyM.region (S := fun w' : World => w'.cell? ⟨w.heap.size, 3, none⟩ = some (.slice L.la m.log.length L.lc) ∧ w'.cell? ⟨w.heap.size, 11, none⟩ = some (.slice L.ta m.tail.length L.tc)) (late := fun _ => false) (by kernel_rfl) ?_
                have hHeld : (fun w' : World => w'.cell? ⟨w.heap.size, 3, none⟩ = some (.slice L.la m.log.length L.lc) ∧ w'.cell? ⟨w.heap.size, 11, none⟩ = some (.slice L.ta m.tail.length L.tc)) _ := HKEEP.out _ (Chg.drew _ _)
                refine AnyM.take (i := 0) (v := ?vtc0) rfl (by kernel_rfl) (by kernel_rfl) rfl (by kernel_rfl) (by kernel_rfl) (fun _ _ _ h => h) (Or.inl ⟨by rfl, ?ytc0⟩) hHeld ?rtc0
                case ytc0 => (intro w hSw; (try dsimp only at hSw); obtain ⟨hS1, hS2⟩ := hSw; go_simp; try with_reducible rfl)
                try simp only [Act.put, List.setIfInBounds_toArray, List.set_cons_zero, List.set_cons_succ, List.getElem_cons_zero, List.getElem_cons_succ, List.getElem_toArray]
                refine AnyM.take (i := 1) (v := ?vtc1) rfl (by kernel_rfl) (by kernel_rfl) rfl (by kernel_rfl) (by kernel_rfl) (fun _ _ _ h => h) (Or.inl ⟨by rfl, ?ytc1⟩) hHeld ?rtc1
                case ytc1 => (intro w hSw; (try dsimp only at hSw); obtain ⟨hS1, hS2⟩ := hSw; go_simp; try with_reducible rfl)
                try simp only [Act.put, List.setIfInBounds_toArray, List.set_cons_zero, List.set_cons_succ, List.getElem_cons_zero, List.getElem_cons_succ, List.getElem_toArray]
                refine AnyM.take (i := 3) (v := ?vtc3) rfl (by kernel_rfl) (by kernel_rfl) rfl (by kernel_rfl) (by kernel_rfl) (fun _ _ _ h => h) (Or.inl ⟨by rfl, ?ytc3⟩) hHeld ?rtc3
                case ytc3 => (intro w hSw; (try dsimp only at hSw); obtain ⟨hS1, hS2⟩ := hSw; go_simp; try with_reducible rfl)
                try simp only [Act.put, List.setIfInBounds_toArray, List.set_cons_zero, List.set_cons_succ, List.getElem_cons_zero, List.getElem_cons_succ, List.getElem_toArray]
                refine AnyM.take (i := 4) (v := ?vtc4) rfl (by kernel_rfl) (by kernel_rfl) rfl (by kernel_rfl) (by kernel_rfl) (fun _ _ _ h => h) (Or.inl ⟨by rfl, ?ytc4⟩) hHeld ?rtc4
                case ytc4 => (intro w hSw; (try dsimp only at hSw); obtain ⟨hS1, hS2⟩ := hSw; go_simp; try with_reducible rfl)
                try simp only [Act.put, List.setIfInBounds_toArray, List.set_cons_zero, List.set_cons_succ, List.getElem_cons_zero, List.getElem_cons_succ, List.getElem_toArray]
                refine AnyM.step (i := 2) (by kernel_rfl) rfl rfl (fun K hK => ?_)
                go_simp
                refine (copied_calls _ _ _ m.log _ HLG.out (by omega)).mono ?_
                rintro e w5 ⟨a3, c3, rfl, h2, h3, h4⟩
                have h3' := (Chg.drew NoB wr).trans h3
                have HH2 := hide h2; clear h2
                have h4' : ∀ b, a3 = some b → wr.heap.size ≤ b.block := h4
                clear hHeld
                refine hK.out _ _ (by first | exact HKEEP.out _ (Chg.drew _ _) | exact HKEEP.out _ (h3'.mono (fun _ f => f.elim)) | exact HKEEP.out _ hk6) (fun hHeld => ?_)
                clear hK K
                try simp only [Act.put, List.setIfInBounds_toArray, List.set_cons_zero, List.set_cons_succ, List.getElem_cons_zero, List.getElem_cons_succ, List.getElem_toArray]
                refine AnyM.step (i := 5) (by kernel_rfl) rfl rfl (fun K hK => ?_)
                refine step_app_own rfl (.tmp 95) (.tmp 97) 28 rfl 5 iu (.int .u8 0) 1 1 Try.underlying28 hu hu0 hu1 hu2 rfl (by decide) a3 m.log.length c3 (bcells m.log) rfl HH2.out L.ta m.tail.length L.tc (bcells m.tail) rfl HNIL.out (by rw [bcells_length, Nat.mul_one]) (HTL.out _ h3').cell (bcells_one _) (by unfold maxLen; omega) (by omega) ?_
                intro a6 c6 w6 hr6 hc6 hat6
                have hF6 : ∀ j, (∃ b, a3 = some b ∧ b.block = j) → wr.heap.size ≤ j := by rintro j ⟨b, hb, rfl⟩; exact h4' b hb
                have hk6 : Chg (fun j => wr.heap.size ≤ j) wr w6 := (h3'.mono (fun _ f => f.elim)).trans (hc6.mono hF6)
                clear hHeld
                refine hK.out _ _ (by first | exact HKEEP.out _ (Chg.drew _ _) | exact HKEEP.out _ (h3'.mono (fun _ f => f.elim)) | exact HKEEP.out _ hk6) (fun hHeld => ?_)
                clear hK K
                try simp only [Act.put, List.setIfInBounds_toArray, List.set_cons_zero, List.set_cons_succ, List.getElem_cons_zero, List.getElem_cons_succ, List.getElem_toArray]
                refine AnyM.take (i := 6) (v := ?vtc6) rfl (by kernel_rfl) (by kernel_rfl) rfl (by kernel_rfl) (by kernel_rfl) (fun _ _ _ h => h) (Or.inl ⟨by rfl, ?ytc6⟩) hHeld ?rtc6
                case ytc6 => (intro w hSw; (try dsimp only at hSw); obtain ⟨hS1, hS2⟩ := hSw; go_simp; try with_reducible rfl)
                try simp only [Act.put, List.setIfInBounds_toArray, List.set_cons_zero, List.set_cons_succ, List.getElem_cons_zero, List.getElem_cons_succ, List.getElem_toArray]
                refine AnyM.done (by kernel_rfl) ?_ _
                have hS6 := hST.pages hG hk6 hST.ca
                have hO6 := hOT.news hk6 (fun _ h => h)
                rw [← bcells_append] at hr6
                have hall : BS w6 a6 (m.log.length + m.tail.length) c6 (m.log ++ m.tail) := BS.own hr6
                have hallen : (m.log ++ m.tail).length = m.log.length + m.tail.length := List.length_append
                have hcrl := m.crash_all cl hcer
                rw [hallen] at hcrl
                clear HKEEP HLG HTL HNIL hr6 hc6 hat6 hk6 hF6 h3 h3' h4 h4' HH2 hHeld hST hOT
                have hBC := HBS.out w6 (hS6.chg.mono (fun _ f => f.elim))
                have HA0 := hide (fun w' (hc : Chg NoB w6 w') => atR_calls ca cn cc cl 0 w' (hBC.chg0 hc))
                have HA1 := hide (fun w' (hc : Chg NoB w6 w') => atR_calls ca cn cc cl 1 w' (hBC.chg0 hc))
                obtain ⟨kk, hkk⟩ : ∃ kk, kk = (chAt cl 0 + 256 * chAt cl 1) % (m.log.length + m.tail.length - m.certain + 1) := ⟨_, rfl⟩
                have hkI : ((chAt cl 0 : Int) + 256 * (chAt cl 1 : Int)) % (((m.log.length + m.tail.length : Nat) : Int) - (m.certain : Int) + 1) = (kk : Int) := by
                  rw [hkk, Int.natCast_emod]; congr 1; omega
                have hkle : kk ≤ m.log.length + m.tail.length - m.certain := by have := Nat.mod_lt (chAt cl 0 + 256 * chAt cl 1) (show 0 < m.log.length + m.tail.length - m.certain + 1 by omega); omega
                rw [← hkk] at hcrl
                have HCRL := hide hcrl
                have hx0 := chAt_lt cl 0
                have hx1 := chAt_lt cl 1
                clear hcrl hkk hBC
                generalize chAt cl 0 = x0 at HA0 hx0 hkI
                generalize chAt cl 1 = x1 at HA1 hx1 hkI
                have hy0 : (0 : Int) ≤ (x0 : Int) := by omega
                have hy1 : (x0 : Int) ≤ 255 := by omega
                have hy2 : (0 : Int) ≤ (x1 : Int) := by omega
                have hy3 : (x1 : Int) ≤ 255 := by omega
                clear hx0 hx1
                have HALEN := hide hallen
                generalize hlae : m.log.length + m.tail.length = la at hall hkI hkle hlt2 HALEN
                have hcl2 : m.certain ≤ la := by omega
                have HLAE := hide hlae
                have HKEEP := hide (fun w' (hc : Chg NoB w6 w') => (hS6.same hc).cd 4 (v := .int .i64 m.certain) rfl)
                have HALL := hide hall
                clear hlae hallen hall
                have hcl3 : (m.certain : Int) ≤ (la : Int) := by omega
                have hla2 : (la : Int) ≤ 16777216 := by omega
                have hkT : ((x0 : Int) + 256 * (x1 : Int)).tmod ((la : Int) - (m.certain : Int) + 1) = (kk : Int) := by rw [Int.tmod_eq_emod_of_nonneg (by omega)]; exact hkI
                have hnz : ((la : Int) - (m.certain : Int) + 1 = 0) = False := by simp; omega
                have hw1 : IntKind.i64.wrap (256 * (x1 : Int)) = 256 * (x1 : Int) := IntWalk.i64_in _ (by omega)
                have hw2 : IntKind.i64.wrap ((x0 : Int) + 256 * (x1 : Int)) = (x0 : Int) + 256 * (x1 : Int) := IntWalk.i64_in _ (by omega)
                have hw3 : IntKind.i64.wrap ((la : Int) - (m.certain : Int)) = (la : Int) - (m.certain : Int) := IntWalk.i64_in _ (by omega)
                have hw4 : IntKind.i64.wrap ((la : Int) - (m.certain : Int) + 1) = (la : Int) - (m.certain : Int) + 1 := IntWalk.i64_in _ (by omega)
                have HW := hide (And.intro hw1 (And.intro hw2 (And.intro hw3 (And.intro hw4 (And.intro hkT hnz)))))
                clear hw1 hw2 hw3 hw4 hkT hnz hkI
                go_wp2_with fail
                obtain ⟨hw1, hw2, hw3, hw4, hkT, hnz⟩ := HW.out
                refine AnyM.region (S := fun w' : World => w'.cell? ⟨w.heap.size, 4, none⟩ = some (.int .i64 m.certain)) (late := fun _ => false) (by kernel_rfl) ?_
                have hHeld : (fun w' : World => w'.cell? ⟨w.heap.size, 4, none⟩ = some (.int .i64 m.certain)) _ := HKEEP.out _ (Chg.drew _ _)
                refine AnyM.take (i := 0) (v := ?vtd0) rfl (by kernel_rfl) (by kernel_rfl) rfl (by kernel_rfl) (by kernel_rfl) (fun _ _ _ h => h) (Or.inl ⟨by rfl, ?ytd0⟩) hHeld ?rtd0
                case ytd0 => (intro w hSw; (try dsimp only at hSw); go_simp; try with_reducible rfl)
                try simp only [Act.put, List.setIfInBounds_toArray, List.set_cons_zero, List.set_cons_succ, List.getElem_cons_zero, List.getElem_cons_succ, List.getElem_toArray]
                refine AnyM.take (i := 2) (v := ?vtd2) rfl (by kernel_rfl) (by kernel_rfl) rfl (by kernel_rfl) (by kernel_rfl) (fun _ _ _ h => h) (Or.inl ⟨by rfl, ?ytd2⟩) hHeld ?rtd2
                case ytd2 => (intro w hSw; (try dsimp only at hSw); go_simp; try with_reducible rfl)
                try simp only [Act.put, List.setIfInBounds_toArray, List.set_cons_zero, List.set_cons_succ, List.getElem_cons_zero, List.getElem_cons_succ, List.getElem_toArray]
                refine AnyM.take (i := 6) (v := ?vtd6) rfl (by kernel_rfl) (by kernel_rfl) rfl (by kernel_rfl) (by kernel_rfl) (fun _ _ _ h => h) (Or.inl ⟨by rfl, ?ytd6⟩) hHeld ?rtd6
                case ytd6 => (intro w hSw; (try dsimp only at hSw); go_simp; try with_reducible rfl)
                try simp only [Act.put, List.setIfInBounds_toArray, List.set_cons_zero, List.set_cons_succ, List.getElem_cons_zero, List.getElem_cons_succ, List.getElem_toArray]
                refine AnyM.take (i := 7) (v := ?vtd7) rfl (by kernel_rfl) (by kernel_rfl) rfl (by kernel_rfl) (by kernel_rfl) (fun _ _ _ h => h) (Or.inl ⟨by rfl, ?ytd7⟩) hHeld ?rtd7
                case ytd7 => (intro w hSw; (try dsimp only at hSw); go_simp; try with_reducible rfl)
                try simp only [Act.put, List.setIfInBounds_toArray, List.set_cons_zero, List.set_cons_succ, List.getElem_cons_zero, List.getElem_cons_succ, List.getElem_toArray]
                refine AnyM.take (i := 8) (v := ?vtd8) rfl (by kernel_rfl) (by kernel_rfl) rfl (by kernel_rfl) (by kernel_rfl) (fun _ _ _ h => h) (Or.inl ⟨by rfl, ?ytd8⟩) hHeld ?rtd8
                case ytd8 => (intro w hSw; (try dsimp only at hSw); go_simp; try with_reducible rfl)
                try simp only [Act.put, List.setIfInBounds_toArray, List.set_cons_zero, List.set_cons_succ, List.getElem_cons_zero, List.getElem_cons_succ, List.getElem_toArray]
                refine AnyM.take (i := 9) (v := ?vtd9) rfl (by kernel_rfl) (by kernel_rfl) rfl (by kernel_rfl) (by kernel_rfl) (fun _ _ _ h => h) (Or.inl ⟨by rfl, ?ytd9⟩) hHeld ?rtd9
                case ytd9 => (intro w hSw; (try dsimp only at hSw); go_simp; try with_reducible rfl)
                try simp only [Act.put, List.setIfInBounds_toArray, List.set_cons_zero, List.set_cons_succ, List.getElem_cons_zero, List.getElem_cons_succ, List.getElem_toArray]
                refine AnyM.take (i := 10) (v := ?vtd10) rfl (by kernel_rfl) (by kernel_rfl) rfl (by kernel_rfl) (by kernel_rfl) (fun _ _ _ h => h) (Or.inl ⟨by rfl, ?ytd10⟩) hHeld ?rtd10
                case ytd10 => (intro w hSw; (try dsimp only at hSw); go_simp; try with_reducible rfl)
                try simp only [Act.put, List.setIfInBounds_toArray, List.set_cons_zero, List.set_cons_succ, List.getElem_cons_zero, List.getElem_cons_succ, List.getElem_toArray]
                refine AnyM.take (i := 11) (v := ?vtd11) rfl (by kernel_rfl) (by kernel_rfl) rfl (by kernel_rfl) (by kernel_rfl) (fun _ _ _ h => h) (Or.inl ⟨by rfl, ?ytd11⟩) hHeld ?rtd11
                case ytd11 => (intro w hSw; (try dsimp only at hSw); go_simp; try with_reducible rfl)
                try simp only [Act.put, List.setIfInBounds_toArray, List.set_cons_zero, List.set_cons_succ, List.getElem_cons_zero, List.getElem_cons_succ, List.getElem_toArray]
                refine AnyM.step (i := 1) (by kernel_rfl) rfl rfl (fun K hK => ?_)
                go_simp
                refine (HA0.out _ (Chg.drew NoB w6)).mono ?_
                rintro e w8 ⟨rfl, rfl⟩
                clear hHeld
                refine hK.out _ _ (by first | exact HKEEP.out _ (Chg.drew _ _)) (fun hHeld => ?_)
                clear hK K
                try simp only [Act.put, List.setIfInBounds_toArray, List.set_cons_zero, List.set_cons_succ, List.getElem_cons_zero, List.getElem_cons_succ, List.getElem_toArray]
                refine AnyM.step (i := 3) (by kernel_rfl) rfl rfl (fun K hK => ?_)
                go_simp
                refine (HA1.out _ (Chg.drew NoB w6)).mono ?_
                rintro e w8 ⟨rfl, rfl⟩
                clear hHeld
                refine hK.out _ _ (by first | exact HKEEP.out _ (Chg.drew _ _)) (fun hHeld => ?_)
                clear hK K
                try simp only [Act.put, List.setIfInBounds_toArray, List.set_cons_zero, List.set_cons_succ, List.getElem_cons_zero, List.getElem_cons_succ, List.getElem_toArray]
                refine AnyM.take (i := 4) (v := ?vtd4) rfl (by kernel_rfl) (by kernel_rfl) rfl (by kernel_rfl) (by kernel_rfl) (fun _ _ _ h => h) (Or.inl ⟨by rfl, ?ytd4⟩) hHeld ?rtd4
                case ytd4 => (intro w hSw; (try dsimp only at hSw); go_simp; try with_reducible rfl)
                try simp only [Act.put, List.setIfInBounds_toArray, List.set_cons_zero, List.set_cons_succ, List.getElem_cons_zero, List.getElem_cons_succ, List.getElem_toArray]
                refine AnyM.take (i := 5) (v := ?vtd5) rfl (by kernel_rfl) (by kernel_rfl) rfl (by kernel_rfl) (by kernel_rfl) (fun _ _ _ h => h) (Or.inl ⟨by rfl, ?ytd5⟩) hHeld ?rtd5
                case ytd5 => (intro w hSw; (try dsimp only at hSw); go_simp; try with_reducible rfl)
                try simp only [Act.put, List.setIfInBounds_toArray, List.set_cons_zero, List.set_cons_succ, List.getElem_cons_zero, List.getElem_cons_succ, List.getElem_toArray]
                refine AnyM.take (i := 12) (v := ?vtd12) rfl (by kernel_rfl) (by kernel_rfl) rfl (by kernel_rfl) (by kernel_rfl) (fun _ _ _ h => h) (Or.inl ⟨by rfl, ?ytd12⟩) hHeld ?rtd12
                case ytd12 => (intro w hSw; (try dsimp only at hSw); go_simp; try with_reducible rfl)
                try simp only [Act.put, List.setIfInBounds_toArray, List.set_cons_zero, List.set_cons_succ, List.getElem_cons_zero, List.getElem_cons_succ, List.getElem_toArray]
                refine AnyM.take (i := 13) (v := ?vtd13) rfl (by kernel_rfl) (by kernel_rfl) rfl (by kernel_rfl) (by kernel_rfl) (fun _ _ _ h => h) (Or.inl ⟨by rfl, ?ytd13⟩) hHeld ?rtd13
                case ytd13 => (intro w hSw; (try dsimp only at hSw); go_simp; try with_reducible rfl)
                try simp only [Act.put, List.setIfInBounds_toArray, List.set_cons_zero, List.set_cons_succ, List.getElem_cons_zero, List.getElem_cons_succ, List.getElem_toArray]
                refine AnyM.done (by kernel_rfl) ?_ _
                clear hw1 hw2 hw3 hw4 hkT hnz HW hHeld HKEEP HA0 HA1
                have hcw := Chg.drew NoB w6
                have hS7 := hS6.same hcw
                have hO7 := hO6.chg0 hcw
                have hALL := HALL.out.chg0 hcw
                generalize w6.drew = w7 at hS7 hO7 hALL ⊢
                clear hcw hS6 hO6 HALL
                have c4 := hS7.cd 4 (v := .int .i64 m.certain) rfl
                have hsum : m.certain + kk ≤ la := by omega
                have hT := hALL.take hsum
                have hca := hALL.cap
                have q1 : (0 : Int) ≤ (m.certain : Int) + (kk : Int) := by omega
                have q2 : (m.certain : Int) + (kk : Int) ≤ (c6 : Int) := by omega
                have q3 : ((m.certain : Int) + (kk : Int)).toNat = m.certain + kk := by omega
                have hTl : ((m.log ++ m.tail).take (m.certain + kk)).length = m.certain + kk := by rw [List.length_take, HALEN.out]; omega
                have HT2 := hide hT; have HTL2 := hide hTl; clear hT hTl hALL
                go_wp2_with fail
                refine (copied_calls _ _ _ _ _ HT2.out (by omega)).mono ?_
                rintro e w8 ⟨a8, c8, rfl, h2, h3, h4⟩
                rw [HTL2.out] at h2 ⊢
                have hS8 := hS7.same h3
                have hO8 := hO7.chg0 h3
                have HH2 := hide h2; clear h2 c4
                have h48 : ∀ b, a8 = some b → w.heap.size + 2 ≤ b.block ∧ b.block ≠ b5 := fun b hb => hS7.ca _ (h4 b hb)
                have o3 := hS8.co 3 (v := .slice none 0 0) rfl
                have f3 := hS8.fo 3
                have hcs3 := Chg.cell1 w8 b5 3 (.slice a8 (m.certain + kk) c8)
                have hS9 := hS8.set hG 3 (.slice a8 (m.certain + kk) c8)
                have hO9 := hO8.chg hcs3 CA.no
                have hL9 := (BS.own HH2.out).chg hcs3 (fun b hb => (h48 b hb).2)
                have p3 := hS9.co 3 (v := .slice a8 (m.certain + kk) c8) rfl
                have p4 := hS9.co 4 (v := .int .i64 0) rfl
                have e4 := hS9.fo 4
                have hcs4 := Chg.cell1 (w8.setCell ⟨b5, 3, none⟩ (.slice a8 (m.certain + kk) c8)) b5 4 (.int .i64 ((m.certain : Int) + (kk : Int)))
                have hS10 := hS9.set hG 4 (.int .i64 ((m.certain : Int) + (kk : Int)))
                have hO10 := hO9.chg hcs4 CA.no
                have hL10 := hL9.chg hcs4 (fun b hb => (h48 b hb).2)
                have d5 := hS10.cd 5 (v := .slice L.ma m.mark.length L.mc) rfl
                clear hS7 hO7 hS8 hO8 hS9 hO9 hL9 hcs3 hcs4 HT2
                generalize hwe : (w8.setCell ⟨b5, 3, none⟩ (.slice a8 (m.certain + kk) c8)).setCell ⟨b5, 4, none⟩ (.int .i64 ((m.certain : Int) + (kk : Int))) = w10 at hS10 hO10 hL10 d5
                have HWE := hide hwe; clear hwe
                have hS10' := hide hS10; have hO10' := hide hO10; have hL10' := hide hL10
                clear hS10 hO10 hL10
                have d5' := d5
                rw [← HWE.out] at d5
                have hmk64 : m.mark.length ≤ 64 := HOK.out.mark
                go_wp2_with fail
                rw [HWE.out]
                clear d5 d5' p3 p4 e4 o3 f3 HWE
                refine (copied_calls _ _ _ _ _ hS10'.out.ref.mark (by omega)).mono ?_
                rintro e w11 ⟨a11, c11, rfl, h5, h6, h7⟩
                have hS11 := hS10'.out.same h6
                have hO11 := hO10'.out.chg0 h6
                have hL11 := hL10'.out.chg0 h6
                have HH5 := hide h5; clear h5
                have h711 : ∀ b, a11 = some b → w.heap.size + 2 ≤ b.block ∧ b.block ≠ b5 := fun b hb => hS10'.out.ca _ (h7 b hb)
                have o5 := hS11.co 5 (v := .slice none 0 0) rfl
                have f5 := hS11.fo 5
                have hcs5 := Chg.cell1 w11 b5 5 (.slice a11 m.mark.length c11)
                have hS12 := hS11.set hG 5 (.slice a11 m.mark.length c11)
                have hO12 := hO11.chg hcs5 CA.no
                have hL12 := hL11.chg hcs5 (fun b hb => (h48 b hb).2)
                have hM12 := (BS.own HH5.out).chg hcs5 (fun b hb => (h711 b hb).2)
                have hbs0 : (m.crash cl).base = bs := HBB.out
                have hlg0 : (m.crash cl).log = (m.log ++ m.tail).take (m.certain + kk) := HCRL.out
                have hce := DM.crash_eq m cl hbs0 hlg0
                have hcur : ((((newCells (some ⟨g, 0, none⟩) n bc m.room).setIfInBounds 3 (.slice a8 (m.certain + kk) c8)).setIfInBounds 4 (.int .i64 ((m.certain : Int) + (kk : Int)))).setIfInBounds 5 (.slice a11 m.mark.length c11)) = rcells (m.crashM bs ((m.log ++ m.tail).take (m.certain + kk))) (RL.crashed g bc pv a8 c8 a11 c11) := by
                  simp [newCells, rcells, DM.crashM, RL.crashed, RL.fresh, HBL.out, HTL2.out]
                have hrf := crash_ref (m := m) hO12 HBL.out (fun p hp => HOKC.out.page p (by rw [hbs0]; exact hp)) (by rw [HTL2.out]; exact hL12) (fun b hb => (h48 b hb).1) hM12 (fun b hb => (h711 b hb).1)
                have HO12 := hide (And.intro hS12.o hS12.sz)
                obtain ⟨cs, hr1, hr2⟩ := hS12.r
                have hc12 := hS12.chg
                have HR := hide (And.intro hr1 hr2)
                have HCUR := hide hcur; have HRF := hide hrf; have HCE := hide hce
                have ho12 : (rcells (m.crashM bs ((m.log ++ m.tail).take (m.certain + kk))) (RL.crashed g bc pv a8 c8 a11 c11)).all (·.oneCell') = true := rcells_one _ _
                rw [← hcur] at ho12
                have HON := hide ho12
                clear hr1 hr2 hcur hrf hce hbs0 hlg0 hO12 hL12 hM12 hS12 hO11 hL11 hS11 ho12
                go_wp2_with (first | (refine wpList_ldR rfl (.tmp 5) rfl b5 rfl _ HO12.out.1 HO12.out.2 ?_) | (refine wpList_stR rfl (.tmp 4) (.tmp 128) rfl (w.heap.size + 1) rfl cs _ rfl HR.out.1 HR.out.2 HO12.out.2 HON.out ?_))
                rw [HCUR.out, HCE.out]
                have hcz := Chg.setRow1 (w11.setCell ⟨b5, 5, none⟩ (.slice a11 m.mark.length c11)) (w.heap.size + 1) (rcells (m.crashM bs ((m.log ++ m.tail).take (m.certain + kk))) (RL.crashed g bc pv a8 c8 a11 c11))
                exact ⟨rfl, _, results_cell_row (P := Try.prog) (ty := 52) rfl _ _ (w.heap.size + 1) _ _ _ _ rfl (setRow_heap _ _ _ _ _ _ HR.out.1) Try.underlying52 rfl infoRf, _, rfl, (HRF.out.chg hcz (fun k hk e => by have : k = w.heap.size + 1 := e; omega)).mono (fun k hk => by omega), hc12.trans' hcz (fun i hi => .inr (by omega))⟩
end Go.Proofs.Ythgejjlhfdegeaa
