/- The device's methods, walked: Crash. -/
import Derived.Test.YthgejjlhfdegeaaDiskH
import Derived.StillTailTactics
namespace Go.Proofs.Ythgejjlhfdegeaa
open Go.RowKit Go.MapKept

set_option maxHeartbeats 400000

theorem at_calls {w : World} {a : Option Addr} {n c : Nat} {l : List UInt8} (h : BS w a n c l) (i : Nat) (hi : i ≤ 4611686018427387904) :
    Calls Try.prog 40 #[.slice a n c, .int .i64 i] w fun e w' => e = .returned (.int .i64 (chAt l i)) ∧ w = w' := by
  by_cases hlt : i < n
  · obtain ⟨bk, off, rfl, hcell⟩ := h.form (by omega)
    have hc := hcell i hlt
    have hx : chAt l i = (l.getD i 0).toNat := rfl
    rw [hx]
    have hb : ((l.getD i 0).toNat : Int) ≤ 255 := by have := (l.getD i 0).toNat_lt; omega
    generalize (l.getD i 0).toNat = x at hc hb ⊢
    clear hcell hx h
    go_enter Try.func40, Try.ntmps40
    go_wp2_with fail
    go_ret
    refine ⟨?_, rfl⟩
    simp
  · have hx : chAt l i = 0 := by
      have := h.len
      simp only [chAt, List.getD]
      rw [List.getElem?_eq_none (by omega)]; rfl
    rw [hx]
    have hl := hide h.len
    clear hx h
    go_enter Try.func40, Try.ntmps40
    go_wp2_with fail
    go_ret
    exact ⟨rfl, rfl⟩

theorem at0_calls {w : World} {a : Option Addr} {n c : Nat} {l : List UInt8} (h : BS w a n c l) : Calls Try.prog 40 #[.slice a n c, .int .i64 0] w fun e w' => e = .returned (.int .i64 (chAt l 0)) ∧ w = w' := at_calls h 0 (by omega)
theorem at1_calls {w : World} {a : Option Addr} {n c : Nat} {l : List UInt8} (h : BS w a n c l) : Calls Try.prog 40 #[.slice a n c, .int .i64 1] w fun e w' => e = .returned (.int .i64 (chAt l 1)) ∧ w = w' := at_calls h 1 (by omega)

section
variable {w : World} {sb : Nat} {m : DM} {L : DL} {F C : Nat → Prop}

theorem pv_one (ps : List PR) (h : ∀ r ∈ ps, ∃ a n c, r.v = .slice a n c) : ∀ v ∈ ps.map PR.v, v.oneCell' = true := by
  intro v hv
  obtain ⟨r, hr, rfl⟩ := List.mem_map.1 hv
  obtain ⟨a, n, c, h⟩ := h r hr
  rw [h]; rfl
theorem PR.At.slice {w : World} {C : Nat → Prop} {r : PR} (h : r.At w C) : ∃ a n c, r.v = .slice a n c := by
  rcases h with ⟨h, _⟩ | ⟨a, c, h, _⟩
  · exact ⟨_, _, _, h⟩
  · exact ⟨_, _, _, h⟩

/-- The pages when k writes have been let through or not. -/
def crashPs (c : List UInt8) (ws : List WR) (ps : List PR) : Nat → List PR
  | 0 => ps
  | k + 1 => if chAt c k % 2 = 0 then match ws[k]? with
    | some r => (crashPs c ws ps k).set r.page ⟨r.v, r.l⟩
    | none => crashPs c ws ps k
    else crashPs c ws ps k

theorem crashPs_length (c : List UInt8) (ws : List WR) (ps : List PR) : ∀ k, (crashPs c ws ps k).length = ps.length
  | 0 => rfl
  | k + 1 => by
    have ih := crashPs_length c ws ps k
    simp only [crashPs]
    split
    · split
      · rw [List.length_set]; exact ih
      · exact ih
    · exact ih
theorem chAt_lt (c : List UInt8) (k : Nat) : chAt c k < 256 := (c.getD k 0).toNat_lt
theorem and_one_i64 (x : Nat) (h : x < 256) : bits BinOp.and .i64 (x : Int) 1 = (x : Int) % 2 :=
  bits_mask .i64 8 (by decide) (fun n h0 h1 => by rw [IntKind.wrap_i64]; omega) 1 (by decide) x (by omega) (by omega)

theorem bcells_take (l : List UInt8) (n : Nat) : bcells (l.take n) = (bcells l).take n := by simp [bcells]
theorem bcells_drop (l : List UInt8) (n : Nat) : bcells (l.drop n) = (bcells l).drop n := by simp [bcells]
theorem PR.At.len {w : World} {C : Nat → Prop} {r : PR} (h : r.At w C) : r.l.length = 512 := by
  rcases h with ⟨_, hl⟩ | ⟨a, c, _, hB, _⟩
  · rw [hl, zeros512_length]
  · exact hB.len.symm
theorem BS.srcs {w : World} {a : Option Addr} {n c : Nat} {l : List UInt8} (h : BS w a n c l) : 0 < n → ∃ ad, a = some ad ∧ ∀ j v, (bcells l)[j]? = some v → w.cell? (ad.add j) = some v := fun hp => by
  obtain ⟨ad, had⟩ := h.some_of_pos (Nat.lt_of_lt_of_le hp h.cap)
  exact ⟨ad, had, h.cell ad had⟩
theorem BS.lenc {w : World} {a : Option Addr} {n c : Nat} {l : List UInt8} (h : BS w a n c l) : (bcells l).length = n := by rw [bcells_length]; exact h.len.symm
/-- A page's cell as a source of a copy. -/
theorem PR.At.src {w : World} {C : Nat → Prop} {r : PR} (h : r.At w C) : ∃ pa pn pc pl, r.v = .slice pa pn pc ∧ BS w pa pn pc pl ∧ pn ≤ 512 ∧ (bcells pl).take 512 ++ (bcells zeros512).drop pn = bcells r.l := by
  rcases h with ⟨h, hl⟩ | ⟨a, c, h, hB, _⟩
  · exact ⟨none, 0, 0, [], h, BS.nil' _, by omega, by rw [hl]; simp [bcells]⟩
  · refine ⟨some a, 512, c, r.l, h, hB, Nat.le_refl _, ?_⟩
    rw [List.take_of_length_le (by rw [bcells_length, ← hB.len]; exact Nat.le_refl _), List.drop_of_length_le (by rw [bcells_length, zeros512_length]; exact Nat.le_refl _), List.append_nil]
theorem crashPs_at {w : World} {C : Nat → Prop} {c : List UInt8} {ws : List WR} {ps : List PR} (hw : ∀ r ∈ ws, r.At w C) (hp : ∀ r ∈ ps, r.At w C) : ∀ k, ∀ r ∈ crashPs c ws ps k, r.At w C
  | 0 => hp
  | k + 1 => by
    have ih := crashPs_at hw hp (c := c) k
    simp only [crashPs]
    split
    · split
      · rename_i r hr
        intro q hq
        rcases List.mem_or_eq_of_mem_set hq with hq | hq
        · exact ih q hq
        · subst hq
          have := hw r (List.mem_of_getElem? hr)
          exact .inr ⟨r.a, r.c, rfl, this.1, this.2⟩
      · exact ih
    · exact ih

theorem crashTo_ps {w : World} {m : DM} {L : DL} {C : Nat → Prop} (M : DiskMem w m L C) (c : List UInt8) : ∀ k, k ≤ m.waiting.length → crashTo c m.waiting m.base k = (crashPs c L.ws L.ps k).map PR.l
  | 0, _ => M.psl
  | k + 1, hk => by
    have ih := crashTo_ps M c k (by omega)
    have hk' : k < L.ws.length := by have := M.wsl; rw [this] at hk; simp at hk; omega
    have e1 : m.waiting.getD k (0, []) = ((L.ws[k]'hk').page, (L.ws[k]'hk').l) := by rw [M.wsl]; simp [List.getD, hk']
    simp only [crashTo, crashPs, ih, e1, List.getElem?_eq_getElem hk']
    split
    · rw [List.map_set]
    · rfl

theorem crashTo_length (c : List UInt8) (ws : List (Nat × List UInt8)) (b : List (List UInt8)) : ∀ k, (crashTo c ws b k).length = b.length
  | 0 => rfl
  | k + 1 => by
    have ih := crashTo_length c ws b k
    simp only [crashTo]
    split
    · rw [List.length_set]; exact ih
    · exact ih
theorem crash_len (m : DM) (c : List UInt8) : (m.crash c).base.length = m.base.length := by
  simp only [DM.crash]
  cases m.torn with
  | none => exact crashTo_length _ _ _ _
  | some t => simp only [List.length_set]; exact crashTo_length _ _ _ _

/-- What is left of a device, put together. -/
theorem crash_end (h : DiskL w sb m L F C) {W : World} {cl : List UInt8} {pf : List PR} {T : Nat → Prop} {fa : Option Addr} {fc mg kk B1 : Nat} (hcW : Chg NoB w W)
    (hq : W.heap[w.heap.size]? = some (.cells (pf.map PR.v).toArray 28 (0, 0))) (hT : ∀ k, T k → w.heap.size + 2 < k ∧ k < B1) (hpf : ∀ r ∈ pf, r.At W (fun k => C k ∨ T k)) (hbase : (m.crash cl).base = pf.map PR.l)
    (hlen : pf.length = m.base.length) (hmap : MapAt W (w.heap.size + 1) (.int .i64) encI (fun _ => none)) (hkk : kk = (chAt cl 0 + 256 * chAt cl 1) % (m.log.length - m.certain + m.tail.length + 1))
    (hblk : W.heap[w.heap.size + 2]? = some (.cells #[.int .i64 m.room, .slice (some ⟨w.heap.size, 0, none⟩) m.base.length m.base.length, .slice none 0 0, .map (some (w.heap.size + 1)), .slice fa (m.certain + kk) fc, .int .i64 ((m.certain : Int) + (kk : Int)),
      .slice (some ⟨mg, 0, none⟩) m.mark.length m.mark.length, .int .i64 (-1), .int .i64 0, .bool false, .pointer none, .slice none 0 0] 66 (0, 0)))
    (hlog : W.ownsRow 0 5 1 (.slice fa (m.certain + kk) fc) (m.certain + kk) (bcells (m.log.take m.certain) ++ bcells ((m.log.drop m.certain ++ m.tail).take kk)))
    (hfa : ∀ k, blkOf fa k → B1 ≤ k ∧ k < mg) (hB1 : w.heap.size + 2 < B1) (hB2 : B1 ≤ mg) (hmg : W.heap[mg]? = some (.cells (bcells m.mark).toArray 5 (0, 0))) :
    ∃ F' C', Disk W (w.heap.size + 2) (m.crash cl) F' C' ∧ (∀ k, F' k → w.heap.size ≤ k) ∧ ∀ k, C' k → C k ∨ w.heap.size ≤ k := by
  have hcer := h.ok.certain
  have hkle : kk ≤ m.log.length - m.certain + m.tail.length := by have := Nat.mod_lt (chAt cl 0 + 256 * chAt cl 1) (show 0 < m.log.length - m.certain + m.tail.length + 1 by omega); omega
  have hrl : (m.log.drop m.certain ++ m.tail).length = m.log.length - m.certain + m.tail.length := by simp
  have elog : (m.crash cl).log = m.log.take m.certain ++ (m.log.drop m.certain ++ m.tail).take kk := by
    simp only [DM.crash, hkk]; rw [hrl]
  have hll : (m.crash cl).log.length = m.certain + kk := by
    rw [elog, List.length_append, List.length_take, List.length_take, hrl]; omega
  have ecer : (m.crash cl).certain = m.certain + kk := by rw [← hll]; rfl
  have eroom : (m.crash cl).room = m.room := rfl
  have emark : (m.crash cl).mark = m.mark := rfl
  have ewait : (m.crash cl).waiting = [] := rfl
  have etorn : (m.crash cl).torn = none := rfl
  have etail : (m.crash cl).tail = [] := rfl
  have ebl : (m.crash cl).base.length = m.base.length := by rw [hbase, List.length_map, hlen]
  have hok : (m.crash cl).Ok := by
    obtain ⟨a1, a2, a3, a4, a5, a6, a7, a8, a9, a10, a11, a12⟩ := h.ok
    refine ⟨by rw [ebl]; exact a1, ?_, (by rw [ewait]; intro r hr; cases hr), a4, by rw [hll, eroom]; omega, by rw [hll, ecer]; exact Nat.le_refl _, a7, ⟨Int.le_refl _, by show (-1 : Int) ≤ _; omega⟩, ⟨by show (_ : Int) ≤ 0; omega, by show (0 : Int) ≤ _; omega⟩, (by rw [etorn]; intro p b hb; cases hb), by rw [hll, etail, eroom]; simp only [List.length_nil]; omega, fun _ => ⟨rfl, rfl⟩⟩
    intro b hb
    rw [hbase] at hb
    obtain ⟨r, hr, rfl⟩ := List.mem_map.1 hb
    exact (hpf r hr).len
  have hmS := heap_lt hmg
  refine ⟨footOf (w.heap.size + 2) { pb := w.heap.size, ps := pf, wa := none, wc := 0, ws := [], mb := w.heap.size + 1, mp := fun _ => none, la := fa, lc := fc, ma := some ⟨mg, 0, none⟩, mc := m.mark.length, tp := none, ta := none, tc := 0 }, fun k => C k ∨ T k ∨ k = mg, ⟨{ pb := w.heap.size, ps := pf, wa := none, wc := 0, ws := [], mb := w.heap.size + 1, mp := fun _ => none, la := fa, lc := fc, ma := some ⟨mg, 0, none⟩, mc := m.mark.length, tp := none, ta := none, tc := 0 },
    ⟨?_, ?_, hok, fun k => Iff.rfl, ?_, ?_, ?_, no_blk _, ?_, ?_, no_blk _, ?_, no_blk _, ?_, fun k hk => (no_blk _ hk).elim⟩⟩, ?_, ?_⟩
  · rw [hblk]
    simp only [dcells, ebl, ecer, hll, eroom, emark, ewait, etail]
    rfl
  · refine { pages := hq, psl := hbase, psv := fun r hr => (hpf r hr).mono (fun k hk => hk.imp id .inl), wait := World.ownsRow_nil _ _ _ _, wsl := rfl, wsv := ?_, map := hmap, now := ?_, log := ?_, mark := ?_, markC := ?_, tail := BS.nil' _, tailC := ?_, torn := rfl }
    · intro r hr; cases hr
    · intro n; simp [nowOf, lastOf]
    · rw [hll, elog, bcells_append]; exact hlog
    · rw [emark]; exact BS.block hmg rfl (Nat.le_refl _) (by simp [List.take_of_length_le, bcells_length])
    · intro b hb; cases hb; exact .inr (.inr rfl)
    · intro b hb; cases hb
  · have hz := hcW.size
    have hob := heap_lt hblk
    have hF : ∀ k, footOf (w.heap.size + 2) { pb := w.heap.size, ps := pf, wa := none, wc := 0, ws := [], mb := w.heap.size + 1, mp := fun _ => none, la := fa, lc := fc, ma := some ⟨mg, 0, none⟩, mc := m.mark.length, tp := none, ta := none, tc := 0 } k → w.heap.size ≤ k ∧ (k ≤ w.heap.size + 2 ∨ B1 ≤ k) ∧ k ≠ mg := by
      intro k hf
      rcases hf with hf | hf | hf | hf | hf
      · exact ⟨by omega, .inl (by omega), by omega⟩
      · have : k = w.heap.size := hf
        exact ⟨by omega, .inl (by omega), by omega⟩
      · have : k = w.heap.size + 1 := hf
        exact ⟨by omega, .inl (by omega), by omega⟩
      · exact (no_blk _ hf).elim
      · have := hfa k hf
        exact ⟨by omega, .inr this.1, by omega⟩
    intro k hk
    rcases hk with hk | hk | hk
    · have := (h.sep k hk).2
      exact ⟨fun hf => by have := hF k hf; omega, by omega⟩
    · have := hT k hk
      exact ⟨fun hf => by have := hF k hf; omega, by omega⟩
    · exact ⟨fun hf => (hF k hf).2.2 hk, by omega⟩
  · show w.heap.size + 2 ≠ w.heap.size; omega
  · show w.heap.size + 2 ≠ w.heap.size + 1; omega
  · intro hk; have := hfa _ hk; omega
  · show w.heap.size ≠ w.heap.size + 1; omega
  · intro hk; have := hfa w.heap.size hk; omega
  · intro hk; have := hfa (w.heap.size + 1) hk; omega
  · intro k hf
    rcases hf with hf | hf | hf | hf | hf
    · omega
    · have : k = w.heap.size := hf
      omega
    · have : k = w.heap.size + 1 := hf
      omega
    · exact (no_blk _ hf).elim
    · have := hfa k hf; omega
  · rintro k (hk | hk | hk)
    · exact .inl hk
    · exact .inr (by have := hT k hk; omega)
    · exact .inr (by omega)

set_option maxHeartbeats 4000000 in
set_option maxRecDepth 100000 in
theorem crash_calls (h : DiskL w sb m L F C) (ca : Option Addr) (cn cc : Nat) (cl : List UInt8) (hb : BS w ca cn cc cl) (hwl : m.waiting.length ≤ 4611686018427387904) :
    Calls Try.prog 14 #[.pointer (some ⟨sb, 0, none⟩), .slice ca cn cc] w fun e w' => ∃ ob F' C', e = .returned (.pointer (some ⟨ob, 0, none⟩)) ∧ Disk w' ob (m.crash cl) F' C' ∧ Chg NoB w w' ∧ (∀ k, F' k → w.heap.size ≤ k) ∧ ∀ k, C' k → C k ∨ w.heap.size ≤ k := by
  have c0 := h.cell 0 (v := .int .i64 m.room) rfl
  have c1 := h.cell 1 (v := .slice (some ⟨L.pb, 0, none⟩) m.base.length m.base.length) rfl
  have hok := h.ok
  have hpl : m.base.length = L.ps.length := by rw [h.mem.psl]; simp
  have hszp : (Try.prog.info? 28).map (·.size) = some 1 := by kernel_rfl
  have HP := hide hpl; clear hpl
  go_enter Try.func14, Try.ntmps14
  go_wp2_with fail
  go_still_tail 9, (by kernel_rfl)
  go_wp2_with fail
  refine (fresh_calls m.base.length m.room _ hok.pages.1 hok.pages.2 hok.room).mono ?_
  rintro e w1 ⟨rfl, h1, hc1, hs1⟩
  simp only [World.size_drew] at h1 hs1
  have hsb := heap_lt h.blk
  have hpb := heap_lt h.mem.pages
  have hcw : Chg NoB w w1 := (Chg.drew NoB w).trans hc1
  have d1 : w1.cell? ⟨sb, 1, none⟩ = some (.slice (some ⟨L.pb, 0, none⟩) m.base.length m.base.length) := by rw [hcw.cell (p := ⟨sb, 1, none⟩) hsb (fun f => f)]; exact c1
  have o1 := h1.cell 1 (v := .slice (some ⟨w.heap.size, 0, none⟩) m.base.length m.base.length) (by simp [dcells, DM.fresh, freshL])
  have hp1 := hcw.blk h.mem.pages (fun f => f)
  have q1 : w1.heap[w.heap.size]? = some (.cells ((List.replicate m.base.length (Value.slice none 0 0)).toArray) 28 (0, 0)) := by
    have := h1.mem.pages
    simpa [freshL] using this
  have hx1 : ∀ v ∈ L.ps.map PR.v, v.oneCell' = true := pv_one _ fun r hr => (h.mem.psv r hr).slice
  have HX1 := hide hx1; clear hx1
  have hb1 := h1.blk
  have m1 := h1.mem.map
  clear h1
  have hs2 : w.heap.size < w1.heap.size := by omega
  go_wp2_with fail
  go_still_tail 8, (by kernel_rfl)
  change wpList _ _ _ _ _ w1.drew
  refine wpList_cp rfl (.tmp 27) (.tmp 31) 47 47 rfl 28 Try.underlying47 hszp w.heap.size m.base.length m.base.length rfl (some ⟨L.pb, 0, none⟩) m.base.length m.base.length rfl _ 28 q1 (by simp) (L.ps.map PR.v) (by rw [List.length_map, HP.out]) HX1.out (fun _ => ⟨_, rfl, fun j v hj => by rw [add_zero_off, World.cell?_drew, cell_of_row w1 _ _ _ _ _ hp1]; simpa using hj⟩) ?_
  have hcur : ((L.ps.map PR.v).take m.base.length ++ (List.replicate m.base.length (Value.slice none 0 0)).drop m.base.length) = L.ps.map PR.v := by
    rw [List.take_of_length_le (by rw [List.length_map, HP.out]; exact Nat.le_refl _), List.drop_of_length_le (by simp)]; simp
  rw [hcur]
  have q2 : (w1.drew.setRow w.heap.size (L.ps.map PR.v).toArray).heap[w.heap.size]? = some (.cells (L.ps.map PR.v).toArray 28 (0, 0)) := setRow_heap _ _ _ _ _ _ q1
  have hcr := Chg.setRow1 w1.drew w.heap.size (L.ps.map PR.v).toArray
  have hb2 := hcr.blk (k := w.heap.size + 2) hb1 (by omega)
  have m2 := m1.chg ((Chg.drew _ w1).trans hcr) (fun e => by simp [freshL] at e)
  have hcw2 : Chg NoB w (w1.drew.setRow w.heap.size (L.ps.map PR.v).toArray) := (hcw.trans (Chg.drew _ _)).trans' hcr (fun i hi => .inr (by omega))
  generalize w1.drew.setRow w.heap.size (L.ps.map PR.v).toArray = w2 at q2 hb2 m2 hcw2 ⊢
  clear hcur q1 hb1 m1 hp1 d1 o1 hcr hs1 hs2 hcw hc1 w1
  have hB0 := hcw2.blk h.blk (fun f => f)
  have hwait := h.mem.wait
  have e2 : w2.cell? ⟨sb, 2, none⟩ = some (.slice L.wa m.waiting.length L.wc) := by rw [cell_of_row w2 _ _ _ _ _ hB0]; rfl
  generalize L.wa = wa at hwait e2
  have HB0 := hide hB0; clear hB0
  go_wp2_with fail
  go_loopw [38] (fun i wr => ∃ k : Nat, k ≤ m.waiting.length ∧ i = .int .i64 k ∧ wr.heap[w.heap.size]? = some (.cells ((crashPs cl L.ws L.ps k).map PR.v).toArray 28 (0, 0)) ∧
      wr.heap[w.heap.size + 2]? = some (.cells (dcells (DM.fresh m.base.length m.room) (freshL w.heap.size m.base.length)) 66 (0, 0)) ∧ MapAt wr (w.heap.size + 1) (.int .i64) encI (fun _ => none) ∧ Chg NoB w wr) (fun i _ => m.waiting.length - (intOf i).toNat)
  case atStart => exact ⟨0, Nat.zero_le _, rfl, q2, hb2, m2, hcw2⟩
  case round =>
    obtain ⟨k, hk, rfl, q3, hb3, m3, hcw3⟩ := hrel
    by_cases hlt : k < m.waiting.length
    · have hltw : k < L.ws.length := by have := h.mem.wsl; rw [this] at hlt; simpa using hlt
      obtain ⟨wg, hwv, hwg, hwc⟩ := row_cells hwait (by omega)
      subst hwv
      obtain ⟨r, hr⟩ : ∃ r, L.ws[k]? = some r := ⟨_, List.getElem?_eq_getElem hltw⟩
      obtain ⟨hf0, hf1⟩ := flat2 WR.cells (fun _ => rfl) L.ws k r hr
      have x0 : wr.cell? ⟨wg, k * 2, none⟩ = some (.int .i64 r.page) := by rw [hcw3.cell (p := ⟨wg, k * 2, none⟩) hwg (fun f => f)]; exact hwc _ _ (hf0.trans rfl)
      have x1 : wr.cell? ⟨wg, k * 2 + 1, none⟩ = some (.slice (some r.a) 512 r.c) := by rw [hcw3.cell (p := ⟨wg, k * 2 + 1, none⟩) hwg (fun f => f)]; exact hwc _ _ (hf1.trans rfl)
      have hs3 := heap_lt hb3
      have hbr : BS wr ca cn cc cl := hb.chg0 hcw3
      have HR := hide hr; clear hr hf0 hf1
      have HWC := hide hwc; clear hwc
      have hpage : r.page < m.base.length := (h.ok.wait (r.page, r.l) (by rw [h.mem.wsl]; exact List.mem_map_of_mem (List.mem_of_getElem? HR.out))).1
      have hpg2 : (r.page : Int) < (m.base.length : Int) := by omega
      have hbit := and_one_i64 (chAt cl k) (chAt_lt cl k)
      obtain ⟨pv, hpv⟩ : ∃ pv, wr.cell? ⟨w.heap.size, r.page, none⟩ = some pv := by
        rw [cell_of_row wr _ _ _ _ _ q3]
        have hl : r.page < ((crashPs cl L.ws L.ps k).map PR.v).length := by rw [List.length_map, crashPs_length, ← HP.out]; exact hpage
        exact ⟨_, by simp only [List.getElem?_toArray]; exact List.getElem?_eq_getElem hl⟩
      have hfr : wr.frozen? ⟨w.heap.size, r.page, none⟩ = false := by simp [World.frozen?, q3]
      have o1 : wr.cell? ⟨w.heap.size + 2, 1, none⟩ = some (.slice (some ⟨w.heap.size, 0, none⟩) m.base.length m.base.length) := by
        rw [cell_of_row wr _ _ _ _ _ hb3]; simp [dcells, DM.fresh, freshL]
      have hs4 : w.heap.size < wr.heap.size := heap_lt q3
      have HQ3 := hide q3; clear q3
      have HB3 := hide hb3; clear hb3
      by_cases hev : chAt cl k % 2 = 0
      · have hb1 : (bits BinOp.and IntKind.i64 (chAt cl k) 1 == 0) = true := by rw [hbit]; simp; omega
        have hstep : crashPs cl L.ws L.ps (k + 1) = (crashPs cl L.ws L.ps k).set r.page ⟨r.v, r.l⟩ := by simp only [crashPs, if_pos hev, HR.out]
        have HS := hide hstep; clear hstep hev hbit
        go_wp2_with fail
        refine (at_calls (hbr.chg0 (Chg.alloc _ _ _)) k (by omega)).mono ?_
        rintro e w4 ⟨rfl, rfl⟩
        go_wp2_with fail
        have y0 : (wr.alloc (.cells #[.int .i64 r.page, .slice (some r.a) 512 r.c] 70)).cell? ⟨wr.heap.size, 0, none⟩ = some (.int .i64 r.page) := by simp
        have y1 : (wr.alloc (.cells #[.int .i64 r.page, .slice (some r.a) 512 r.c] 70)).cell? ⟨wr.heap.size, 1, none⟩ = some (.slice (some r.a) 512 r.c) := by simp
        have y2 := (World.cell?_alloc_lt wr (.cells #[.int .i64 r.page, .slice (some r.a) 512 r.c] 70) ⟨w.heap.size + 2, 1, none⟩ hs3).trans o1
        have y3 := (World.cell?_alloc_lt wr (.cells #[.int .i64 r.page, .slice (some r.a) 512 r.c] 70) ⟨w.heap.size, r.page, none⟩ hs4).trans hpv
        have y4 := (World.frozen?_alloc_old wr (.cells #[.int .i64 r.page, .slice (some r.a) 512 r.c] 70) ⟨w.heap.size, r.page, none⟩ (Nat.ne_of_lt hs4)).trans hfr
        have hc5 := Chg.alloc NoB wr (.cells #[.int .i64 r.page, .slice (some r.a) 512 r.c] 70)
        generalize wr.alloc (.cells #[.int .i64 r.page, .slice (some r.a) 512 r.c] 70) = w5 at y0 y1 y2 y3 y4 hc5 ⊢
        clear o1 hpv hfr x0 x1
        go_still_tail 9, (by kernel_rfl)
        change wpList _ _ _ _ _ w5.drew
        go_wp2_with fail
        go_roundw
        case rel =>
          have hc6 : Chg NoB wr w5.drew := hc5.trans (Chg.drew _ _)
          have hc7 := Chg.cell1 w5.drew w.heap.size r.page (.slice (some r.a) 512 r.c)
          refine ⟨k + 1, by omega, by go_num, ?_, ?_, (m3.chg hc6 (fun f => f)).chg hc7 (fun e => by omega), (hcw3.trans hc6).trans' hc7 (fun i hi => .inr (by omega))⟩
          · rw [HS.out]
            have := setCell_blk (i := r.page) (hc6.blk HQ3.out (fun f => f)) (.slice (some r.a) 512 r.c)
            exact this.trans (by simp [WR.v, List.map_set])
          · exact hc7.blk (hc6.blk HB3.out (fun f => f)) (by omega)
        case measure => simp [intOf]; omega
      · have hb1 : (bits BinOp.and IntKind.i64 (chAt cl k) 1 == 0) = false := by rw [hbit]; simp; omega
        have hstep : crashPs cl L.ws L.ps (k + 1) = crashPs cl L.ws L.ps k := by simp only [crashPs, if_neg hev]
        have HS := hide hstep; clear hstep hev hbit
        go_wp2_with fail
        refine (at_calls (hbr.chg0 (Chg.alloc _ _ _)) k (by omega)).mono ?_
        rintro e w4 ⟨rfl, rfl⟩
        go_wp2_with fail
        go_roundw
        case rel => exact ⟨k + 1, by omega, by go_num, by rw [HS.out]; exact alloc_blk HQ3.out _, alloc_blk HB3.out _, m3.chg (Chg.alloc NoB _ _) (fun f => f), hcw3.trans (Chg.alloc _ _ _)⟩
        case measure => simp [intOf]; omega
    · obtain rfl : k = m.waiting.length := by omega
      clear hlt hk
      have hB3 := hcw3.blk h.blk (fun f => f)
      have x10 : wr.cell? ⟨sb, 10, none⟩ = some (.pointer L.tp) := by rw [cell_of_row wr _ _ _ _ _ hB3]; rfl
      have x2 : wr.cell? ⟨sb, 2, none⟩ = some (.slice L.wa m.waiting.length L.wc) := by rw [cell_of_row wr _ _ _ _ _ hB3]; rfl
      have htorn := h.mem.torn
      have HB3 := hide hB3; clear hB3
      generalize L.tp = tp at x10 htorn
      generalize L.wa = wa2 at x2
      rcases hto : m.torn with _ | ⟨tpg, tl⟩
      case' none =>
        rw [hto] at htorn
        have htp : tp = none := htorn
        subst htp
        have hcp : (m.crash cl).base = (crashPs cl L.ws L.ps m.waiting.length).map PR.l := by simp only [DM.crash, hto]; exact crashTo_ps h.mem cl _ (Nat.le_refl _)
        have HCP := hide hcp; clear hcp
        have HTO := hide hto; clear hto
        go_wp2_with fail
        obtain ⟨pf, T, qW, hTW, hpW, hlW⟩ : ∃ (pf : List PR) (T : Nat → Prop), Hid (wr.heap[w.heap.size]? = some (.cells (pf.map PR.v).toArray 28 (0, 0))) ∧ Hid (∀ k, T k → w.heap.size + 2 < k ∧ k < wr.heap.size) ∧ Hid (∀ r ∈ pf, r.At wr (fun k => C k ∨ T k)) ∧ Hid ((m.crash cl).base = pf.map PR.l) :=
          ⟨crashPs cl L.ws L.ps m.waiting.length, NoB, hide q3, hide (fun _ f => f.elim), hide (fun r hr => (crashPs_at (c := cl) (fun r hr => (h.mem.wsv r hr).chg hcw3 (fun _ _ f => f)) (fun r hr => (h.mem.psv r hr).chg hcw3 (fun _ _ f => f)) m.waiting.length r hr).mono (fun _ hk => .inl hk)), HCP⟩
        rename World => wz
      case' some =>
        rw [hto] at htorn
        obtain ⟨tb, ta, tc, htp, htC, htb, htB, htaC⟩ := htorn
        subst htp
        have hcp : (m.crash cl).base = ((crashPs cl L.ws L.ps m.waiting.length).map PR.l).set tpg (tl.take (128 * (chAt cl m.waiting.length / 2 % 5)) ++ (((crashPs cl L.ws L.ps m.waiting.length).map PR.l).getD tpg []).drop (128 * (chAt cl m.waiting.length / 2 % 5))) := by
          simp only [DM.crash, hto]; rw [crashTo_ps h.mem cl m.waiting.length (Nat.le_refl _)]
        have HCP := hide hcp; clear hcp
        have hxx : (0 : Int) ≤ (chAt cl m.waiting.length : Int) ∧ (chAt cl m.waiting.length : Int) ≤ 255 := by have := chAt_lt cl m.waiting.length; omega
        obtain ⟨hxx1, hxx2⟩ := hxx
        obtain ⟨iu, hu, hu0, hu1, hu2⟩ := info_parts infoU8
        go_wp2_with fail
        refine (at_calls (hb.chg0 hcw3) m.waiting.length hwl).mono ?_
        rintro e w4 ⟨rfl, rfl⟩
        go_wp2_with (at_make; refine wpList_mk rfl _ _ 28 rfl 5 iu (.int .u8 0) 1 1 Try.underlying28 hu hu0 hu1 hu2 .i64 .i64 512 512 rfl rfl (Nat.le_refl _) (by omega) (by unfold maxLen; omega) ?_)
        have hs3 := heap_lt hb3
        have hs4 := heap_lt q3
        have htpg : tpg < m.base.length := (h.ok.torn tpg tl hto).1
        have htll : tl.length = 512 := (h.ok.torn tpg tl hto).2
        have htl2 : tpg < (crashPs cl L.ws L.ps m.waiting.length).length := by rw [crashPs_length, ← HP.out]; exact htpg
        have hpat := crashPs_at (c := cl) (fun r hr => (h.mem.wsv r hr).chg hcw3 (fun _ _ f => f)) (fun r hr => (h.mem.psv r hr).chg hcw3 (fun _ _ f => f)) m.waiting.length
        obtain ⟨pr, hpr⟩ : ∃ pr, (crashPs cl L.ws L.ps m.waiting.length)[tpg]? = some pr := ⟨_, List.getElem?_eq_getElem htl2⟩
        obtain ⟨pa, pn, pc, pl, hprv, hprB, hpn, hprl⟩ := (hpat pr (List.mem_of_getElem? hpr)).src
        have hplen := hide (hpat pr (List.mem_of_getElem? hpr)).len
        have z0 : wr.cell? ⟨w.heap.size + 2, 1, none⟩ = some (.slice (some ⟨w.heap.size, 0, none⟩) m.base.length m.base.length) := by
          rw [cell_of_row wr _ _ _ _ _ hb3]; simp [dcells, DM.fresh, freshL]
        have z1 : wr.cell? ⟨w.heap.size, tpg, none⟩ = some (.slice pa pn pc) := by rw [cell_of_row wr _ _ _ _ _ q3, ← hprv]; simp [hpr]
        have z2 : wr.frozen? ⟨w.heap.size, tpg, none⟩ = false := by simp [World.frozen?, q3]
        have htb3 := hcw3.blk htb (fun f => f)
        have hstb := heap_lt htb3
        have z3 : wr.cell? ⟨tb, 0, none⟩ = some (.int .i64 tpg) := by rw [cell_of_row wr _ _ _ _ _ htb3]; rfl
        have z4 : wr.cell? ⟨tb, 1, none⟩ = some (.slice (some ta) 512 tc) := by rw [cell_of_row wr _ _ _ _ _ htb3]; rfl
        have hc5 := Chg.alloc NoB wr (.cells (madeCells #[.int .u8 0] 512) 5)
        have hssb : sb < wr.heap.size := heap_lt HB3.out
        have y0 : (wr.alloc (.cells (madeCells #[.int .u8 0] 512) 5)).heap[wr.heap.size]? = some (.cells (bcells zeros512).toArray 5 (0, 0)) := by rw [made_zeros]; exact heap_alloc_new wr _
        have y1 := (hc5.cell (p := ⟨w.heap.size + 2, 1, none⟩) hs3 (fun f => f)).trans z0
        have y2 := (hc5.cell (p := ⟨w.heap.size, tpg, none⟩) hs4 (fun f => f)).trans z1
        have y3 := (hc5.cell (p := ⟨tb, 0, none⟩) hstb (fun f => f)).trans z3
        have y4 := (hc5.cell (p := ⟨sb, 10, none⟩) hssb (fun f => f)).trans x10
        generalize wr.alloc (.cells (madeCells #[.int .u8 0] 512) 5) = w5 at hc5 y0 y1 y2 y3 y4 ⊢
        have htp2 : (tpg : Int) < (m.base.length : Int) := by omega
        have HPR := hide hpr; clear hpr
        have HTO := hide hto; clear hto hprv
        have HTL := hide htll; clear htll
        have HPL := hide hprl; clear hprl
        go_wp2_with fail
        go_still_tail 14, (by kernel_rfl)
        change wpList _ _ _ _ _ w5.drew
        refine wpList_cp rfl (.tmp 74) (.tmp 87) 28 28 rfl 5 Try.underlying28 (by kernel_rfl) wr.heap.size 512 512 rfl pa pn pc rfl (bcells zeros512) 5 y0 (by rw [bcells_length, zeros512_length]) (bcells pl) (by rw [bcells_length]; exact (hprB.len).symm) (bcells_one _) (fun hp => ?_) ?_
        · have hB := hprB.chg0 (hc5.trans (Chg.drew _ _))
          obtain ⟨ad, had⟩ := hB.some_of_pos (Nat.lt_of_lt_of_le hp hB.cap)
          exact ⟨ad, had, hB.cell ad had⟩
        rw [HPL.out]
        have hc6 : Chg NoB wr (w5.drew.setRow wr.heap.size (bcells pr.l).toArray) := (hc5.trans (Chg.drew _ _)).trans' (Chg.setRow1 _ _ _) (fun i hi => .inr (by omega))
        have b6 : (w5.drew.setRow wr.heap.size (bcells pr.l).toArray).heap[wr.heap.size]? = some (.cells (bcells pr.l).toArray 5 (0, 0)) := setRow_heap _ _ _ _ _ _ y0
        generalize w5.drew.setRow wr.heap.size (bcells pr.l).toArray = w6 at hc6 b6 ⊢
        have v1 := (hc6.cell (p := ⟨w.heap.size + 2, 1, none⟩) hs3 (fun f => f)).trans z0
        have v2 := (hc6.cell (p := ⟨w.heap.size, tpg, none⟩) hs4 (fun f => f)).trans z1
        have v3 := (hc6.cell (p := ⟨tb, 0, none⟩) hstb (fun f => f)).trans z3
        have v5 := (hc6.cell (p := ⟨tb, 1, none⟩) hstb (fun f => f)).trans z4
        have v4 := (hc6.cell (p := ⟨sb, 10, none⟩) hssb (fun f => f)).trans x10
        have v6 := (hc6.frozen (p := ⟨w.heap.size, tpg, none⟩) hs4 (fun f => f)).trans z2
        clear y0 y1 y2 y3 y4 hc5 w5
        have htB6 := (htB.chg0 hcw3).chg0 hc6
        have hq1 : (0 : Int) ≤ (chAt cl m.waiting.length : Int) / 2 % 5 * 128 := by omega
        have hq2 : (chAt cl m.waiting.length : Int) / 2 % 5 * 128 ≤ ((512 : Nat) : Int) := by omega
        have hq3 : ((chAt cl m.waiting.length : Int) / 2 % 5 * 128).toNat = 128 * (chAt cl m.waiting.length / 2 % 5) := by omega
        have HQ := hide hq3; clear hq3
        go_wp2_with (first | (refine wpList_sub_hi rfl (.tmp 96) (.tmp 97) 28 rfl Try.underlying28 (by kernel_rfl) (some ta) 512 tc tl rfl htB6 .i64 _ rfl hq1 hq2 ?_; intro sa hsB hsa) | (refine wpList_cp rfl (.tmp 89) (.tmp 98) 28 28 rfl 5 Try.underlying28 (by kernel_rfl) wr.heap.size 512 512 rfl sa _ _ rfl (bcells pr.l) 5 b6 (by rw [bcells_length]; exact hplen.out) (bcells (tl.take ((chAt cl m.waiting.length : Int) / 2 % 5 * 128).toNat)) hsB.lenc (bcells_one _) hsB.srcs ?_))
        have hcat : (bcells (tl.take ((chAt cl m.waiting.length : Int) / 2 % 5 * 128).toNat)).take 512 ++ (bcells pr.l).drop ((chAt cl m.waiting.length : Int) / 2 % 5 * 128).toNat = bcells (tl.take (128 * (chAt cl m.waiting.length / 2 % 5)) ++ pr.l.drop (128 * (chAt cl m.waiting.length / 2 % 5))) := by
          rw [HQ.out, bcells_append, bcells_take, bcells_drop, List.take_of_length_le (by rw [List.length_take]; omega)]
        rw [hcat]
        have hnl : (tl.take (128 * (chAt cl m.waiting.length / 2 % 5)) ++ pr.l.drop (128 * (chAt cl m.waiting.length / 2 % 5))).length = 512 := by
          rw [List.length_append, List.length_take, List.length_drop, HTL.out, hplen.out]; omega
        have HNL := hide hnl; clear hnl hcat
        have hlW0 : (m.crash cl).base = ((crashPs cl L.ws L.ps m.waiting.length).set tpg ⟨.slice (some ⟨wr.heap.size, 0, none⟩) 512 512, tl.take (128 * (chAt cl m.waiting.length / 2 % 5)) ++ pr.l.drop (128 * (chAt cl m.waiting.length / 2 % 5))⟩).map PR.l := by
          rw [HCP.out, List.map_set]
          congr 3
          rw [List.getD, List.getElem?_map, HPR.out]; rfl
        have HLW0 := hide hlW0; clear hlW0
        generalize tl.take (128 * (chAt cl m.waiting.length / 2 % 5)) ++ pr.l.drop (128 * (chAt cl m.waiting.length / 2 % 5)) = nl at HNL HLW0 ⊢
        have hc7 : Chg NoB wr (w6.setRow wr.heap.size (bcells nl).toArray) := hc6.trans' (Chg.setRow1 _ _ _) (fun i hi => .inr (by omega))
        have b7 : (w6.setRow wr.heap.size (bcells nl).toArray).heap[wr.heap.size]? = some (.cells (bcells nl).toArray 5 (0, 0)) := setRow_heap _ _ _ _ _ _ b6
        generalize w6.setRow wr.heap.size (bcells nl).toArray = w7 at hc7 b7 ⊢
        clear v1 v2 v3 v4 v5 v6 b6 hc6 htB6 hsB hsa
        have v1 := (hc7.cell (p := ⟨w.heap.size + 2, 1, none⟩) hs3 (fun f => f)).trans z0
        have v2 := (hc7.cell (p := ⟨w.heap.size, tpg, none⟩) hs4 (fun f => f)).trans z1
        have v3 := (hc7.cell (p := ⟨tb, 0, none⟩) hstb (fun f => f)).trans z3
        have v4 := (hc7.cell (p := ⟨sb, 10, none⟩) hssb (fun f => f)).trans x10
        have v6 := (hc7.frozen (p := ⟨w.heap.size, tpg, none⟩) hs4 (fun f => f)).trans z2
        go_frame
        go_wp2_with fail
        go_still_tail 13, (by kernel_rfl)
        change wpList _ _ _ _ _ w7.drew
        go_wp2_with fail
        have hc8 : Chg NoB wr ((w7.setCell ⟨w.heap.size, tpg, none⟩ (.slice (some ⟨wr.heap.size, 0, none⟩) 512 512)).drew) → True := fun _ => trivial
        clear hc8
        have hcg : Chg (fun i => i = w.heap.size) w7 ((w7.setCell ⟨w.heap.size, tpg, none⟩ (.slice (some ⟨wr.heap.size, 0, none⟩) 512 512)).drew) := (Chg.cell1 _ _ _ _).trans (Chg.drew _ _)
        have q8 : ((w7.setCell ⟨w.heap.size, tpg, none⟩ (.slice (some ⟨wr.heap.size, 0, none⟩) 512 512)).drew).heap[w.heap.size]? = some (.cells (((crashPs cl L.ws L.ps m.waiting.length).set tpg ⟨.slice (some ⟨wr.heap.size, 0, none⟩) 512 512, nl⟩).map PR.v).toArray 28 (0, 0)) := by
          have := setCell_blk (i := tpg) (hc7.blk q3 (fun f => f)) (.slice (some ⟨wr.heap.size, 0, none⟩) 512 512)
          exact this.trans (by simp [List.map_set])
        generalize (w7.setCell ⟨w.heap.size, tpg, none⟩ (.slice (some ⟨wr.heap.size, 0, none⟩) 512 512)).drew = wz at hcg q8 ⊢
        have hwz : Chg NoB w wz := (hcw3.trans hc7).trans' hcg (fun i hi => .inr (by omega))
        have hwrz : Chg (fun i => i = w.heap.size) wr wz := (hc7.mono fun _ f => f.elim).trans hcg
        obtain ⟨pf, T, qW, hTW, hpW, hlW⟩ : ∃ (pf : List PR) (T : Nat → Prop), Hid (wz.heap[w.heap.size]? = some (.cells (pf.map PR.v).toArray 28 (0, 0))) ∧ Hid (∀ k, T k → w.heap.size + 2 < k ∧ k < wz.heap.size) ∧ Hid (∀ r ∈ pf, r.At wz (fun k => C k ∨ T k)) ∧ Hid ((m.crash cl).base = pf.map PR.l) := by
          refine ⟨_, fun k => k = wr.heap.size, hide q8, hide (fun k hk => ?_), hide ?_, HLW0⟩
          · have := hwrz.size; have := heap_lt (hcg.blk b7 (by omega)); omega
          · have hCg : ∀ k, C k → ¬ k = w.heap.size := fun k hk e => by have := (h.sep k hk).2; omega
            intro r hr
            rcases List.mem_or_eq_of_mem_set hr with hr | hr
            · exact ((hpat r hr).chg hwrz hCg).mono (fun _ hk => .inl hk)
            · subst hr
              exact .inr ⟨_, _, rfl, BS.block (hcg.blk b7 (by omega)) HNL.out.symm (Nat.le_refl _) (by rw [← HNL.out]; simp [List.take_of_length_le, bcells_length]), .inr rfl⟩
        replace hb3 := hwrz.blk hb3 (by omega)
        replace m3 := m3.chg hwrz (fun e => by omega)
        clear v1 v2 v3 v4 v6 x10 x2 z0 z1 z2 z3 z4 htb3 hpat hprB q3 q8 b7
        replace hcw3 := hwz
        clear hcg hwrz hwz hc7 w7
      all_goals
        clear hwait
        have hll := h.ok.log
        have hrr := h.ok.room
        have hcer := h.ok.certain
        have hmk := h.ok.mark
        have htt := h.ok.tail
        have hcI : (m.certain : Int) ≤ (m.log.length : Int) := by omega
        obtain ⟨iv, hv, hv0, hv1, hv2⟩ := info_parts infoU8
        have hbz := hcw3.blk h.blk (fun f => f)
        have hszz := heap_lt hb3
        have KS : ∀ w', Chg NoB wz w' → w'.cell? ⟨sb, 4, none⟩ = some (.slice L.la m.log.length L.lc) ∧ w'.cell? ⟨sb, 5, none⟩ = some (.int .i64 m.certain) ∧ w'.cell? ⟨sb, 11, none⟩ = some (.slice L.ta m.tail.length L.tc) := by
          intro w' hc
          have hb' := hc.blk hbz (fun f => f)
          exact ⟨by rw [cell_of_row w' _ _ _ _ _ hb']; rfl, by rw [cell_of_row w' _ _ _ _ _ hb']; rfl, by rw [cell_of_row w' _ _ _ _ _ hb']; rfl⟩
        obtain ⟨g4, g5, g11⟩ := KS wz (Chg.refl _ _)
        have HKS := hide KS; clear KS
        have BL : ∀ w', Chg NoB wz w' → BS w' (if L.lc = m.certain then L.la else L.la.map (·.add m.certain)) (m.log.length - m.certain) (L.lc - m.certain) (m.log.drop m.certain) := by
          intro w' hc
          have hB := ((BS.own h.mem.log).chg0 hcw3).chg0 hc
          have := hB.sub (lo := m.certain) (hi := m.log.length) (m := L.lc) hcer (Nat.le_refl _) hB.cap (Nat.le_refl _)
          rwa [List.take_of_length_le (Nat.le_refl _)] at this
        generalize hE : (if L.lc = m.certain then L.la else L.la.map (·.add m.certain)) = sl at BL
        have HBL := hide BL; clear BL
        have BT : ∀ w', Chg NoB wz w' → BS w' L.ta m.tail.length L.tc m.tail := fun w' hc => (h.mem.tail.chg0 hcw3).chg0 hc
        have HBT := hide BT; clear BT
        have OW : ((wz.alloc (.cells (bcells (m.log.drop m.certain)).toArray 5)).drew).ownsRow 0 5 1 (.slice (some ⟨wz.heap.size, 0, none⟩) (m.log.length - m.certain) (m.log.length - m.certain)) (m.log.length - m.certain) (bcells (m.log.drop m.certain)) := by
          have := own_of_block (w := (wz.alloc (.cells (bcells (m.log.drop m.certain)).toArray 5)).drew) (g := wz.heap.size) (l := m.log.drop m.certain) (heap_alloc_new wz _) (by rw [List.length_drop]; unfold maxLen; omega)
          rwa [List.length_drop] at this
        have HOW := hide OW; clear OW
        have HBZ := hide hbz; clear hbz
        have htn : L.ta = none → m.tail.length = 0 ∧ L.tc = 0 := fun e => ⟨by have := h.mem.tail.nil e; have := h.mem.tail.cap; omega, h.mem.tail.nil e⟩
        have HTN := hide htn; clear htn
        go_region_held3 (fun w' => w'.cell? ⟨sb, 4, none⟩ = some (.slice L.la m.log.length L.lc) ∧ w'.cell? ⟨sb, 5, none⟩ = some (.int .i64 m.certain) ∧ w'.cell? ⟨sb, 11, none⟩ = some (.slice L.ta m.tail.length L.tc)) (first | exact HKS.out _ (Chg.drew _ _) | exact HKS.out _ ((Chg.alloc _ _ _).trans (Chg.drew _ _)) | exact HKS.out _ (by assumption)) (first | (go_at_call 38; refine (clone_calls _ _ _ _ _ (HBL.out _ (Chg.drew _ _)) (by omega)).mono ?_; rintro e w' ⟨rfl, rfl⟩) | (refine step_app_own rfl (.tmp 122) (.tmp 126) 28 rfl 5 iv (.int .u8 0) 1 1 Try.underlying28 hv hv0 hv1 hv2 rfl (by decide) (some ⟨wz.heap.size, 0, none⟩) (m.log.length - m.certain) (m.log.length - m.certain) (bcells (m.log.drop m.certain)) rfl HOW.out L.ta m.tail.length L.tc (bcells m.tail) rfl HTN.out (by rw [bcells_length, Nat.mul_one]) (HBT.out _ ((Chg.alloc _ _ _).trans (Chg.drew _ _))).cell (bcells_one _) (by unfold maxLen; omega) (by omega) ?_; intro ra rc w9 hr9 hc9 hat9; have hcz9 : Chg NoB wz w9 := (((Chg.alloc _ _ _).trans (Chg.drew _ _)).trans' hc9 (fun i hi => (by obtain ⟨b, hb, rfl⟩ := hi; cases hb; exact .inr (Nat.le_refl _))))))
        have hx0 := chAt_lt cl 0
        have hx1 := chAt_lt cl 1
        have hx0' : (0 : Int) ≤ (chAt cl 0 : Int) ∧ (chAt cl 0 : Int) ≤ 255 := by omega
        have hx1' : (0 : Int) ≤ (chAt cl 1 : Int) ∧ (chAt cl 1 : Int) ≤ 255 := by omega
        obtain ⟨hx0a, hx0b⟩ := hx0'
        obtain ⟨hx1a, hx1b⟩ := hx1'
        clear hx0 hx1
        go_wp2_with fail
        refine (at0_calls (hb.chg0 (hcw3.trans hcz9))).mono ?_
        rintro e w10 ⟨rfl, rfl⟩
        go_wp2_with fail
        refine (at1_calls (hb.chg0 (hcw3.trans hcz9))).mono ?_
        rintro e w10 ⟨rfl, rfl⟩
        go_wp2_with fail
        obtain ⟨kk, hkk⟩ : ∃ kk, kk = (chAt cl 0 + 256 * chAt cl 1) % (m.log.length - m.certain + m.tail.length + 1) := ⟨_, rfl⟩
        have hkI : ((chAt cl 0 : Int) + 256 * (chAt cl 1 : Int)) % (((m.log.length - m.certain : Nat) : Int) + (m.tail.length : Int) + 1) = (kk : Int) := by rw [hkk, Int.natCast_emod]; congr 1
        have hkle : kk ≤ m.log.length - m.certain + m.tail.length := by have := Nat.mod_lt (chAt cl 0 + 256 * chAt cl 1) (show 0 < m.log.length - m.certain + m.tail.length + 1 by omega); omega
        have HKK := hide hkk; clear hkk
        rw [hkI]
        clear hkI hx0a hx0b hx1a hx1b
        have hkleI : (kk : Int) ≤ ((m.log.length - m.certain + m.tail.length : Nat) : Int) := by omega
        have hcw9 := hcw3.trans hcz9
        have add0 : ∀ a : Option Addr, a.map (·.add 0) = a := fun a => by cases a <;> simp [Addr.add]
        have BL2 : ∀ w', Chg NoB w9 w' → BS w' L.la m.certain L.lc (m.log.take m.certain) := by
          intro w' hc
          have hB := ((BS.own h.mem.log).chg0 hcw9).chg0 hc
          have := hB.sub (lo := 0) (hi := m.certain) (m := L.lc) (Nat.zero_le _) hcer (by have := hB.cap; omega) (Nat.le_refl _)
          rw [add0, ite_self] at this
          simpa only [Nat.sub_zero, List.drop_zero] using this
        have HBL2 := hide BL2; clear BL2
        have hb9 := hcz9.blk hb3 (fun f => f)
        have g4' := (HKS.out w9 hcz9).1
        have g5' := (HKS.out w9 hcz9).2.1
        have hs9 := heap_lt hb9
        have hcapL : (m.certain : Int) ≤ (L.lc : Int) := by have := (BS.own h.mem.log).cap; omega
        have hR9 : BS w9 ra (m.log.length - m.certain + m.tail.length) rc (m.log.drop m.certain ++ m.tail) := BS.own (by rw [bcells_append]; exact hr9)
        have hcapR : (kk : Int) ≤ (rc : Int) := by have := hR9.cap; omega
        have BR2 : ∀ w', Chg NoB w9 w' → BS w' ra kk rc ((m.log.drop m.certain ++ m.tail).take kk) := by
          intro w' hc
          have hB := hR9.chg0 hc
          have := hB.sub (lo := 0) (hi := kk) (m := rc) (Nat.zero_le _) (by omega) (by omega) (Nat.le_refl _)
          rw [add0, ite_self] at this
          simpa only [Nat.sub_zero, List.drop_zero] using this
        have HBR2 := hide BR2; clear BR2
        clear add0
        have OW2 : ((w9.alloc (.cells (bcells (m.log.take m.certain)).toArray 5)).drew).ownsRow 0 5 1 (.slice (some ⟨w9.heap.size, 0, none⟩) m.certain m.certain) m.certain (bcells (m.log.take m.certain)) := by
          have := own_of_block (w := (w9.alloc (.cells (bcells (m.log.take m.certain)).toArray 5)).drew) (g := w9.heap.size) (l := m.log.take m.certain) (heap_alloc_new w9 _) (by rw [List.length_take]; unfold maxLen; omega)
          rwa [List.length_take, Nat.min_eq_left hcer] at this
        have HOW2 := hide OW2; clear OW2
        have hb9s := hcz9.blk HBZ.out (fun f => f)
        have KS2 : ∀ w', Chg (fun k => k = w.heap.size + 2) w9 w' → w'.cell? ⟨sb, 4, none⟩ = some (.slice L.la m.log.length L.lc) ∧ w'.cell? ⟨sb, 5, none⟩ = some (.int .i64 m.certain) := by
          intro w' hc
          have hb' := hc.blk hb9s (fun e => by omega)
          exact ⟨by rw [cell_of_row w' _ _ _ _ _ hb']; rfl, by rw [cell_of_row w' _ _ _ _ _ hb']; rfl⟩
        have HKS2 := hide KS2; clear KS2
        have HB9 := hide hb9; clear hb9
        have HB9S := hide hb9s; clear hb9s
        have hrn : ra = none → kk = 0 ∧ rc = 0 := fun e => ⟨by have := hR9.nil e; omega, hR9.nil e⟩
        have HRN := hide hrn; clear hrn
        go_region_held3 (fun w' => w'.cell? ⟨sb, 4, none⟩ = some (.slice L.la m.log.length L.lc) ∧ w'.cell? ⟨sb, 5, none⟩ = some (.int .i64 m.certain)) (first | exact HKS2.out _ (Chg.drew _ _) | exact HKS2.out _ ((Chg.alloc _ _ _).trans (Chg.drew _ _)) | exact HKS2.out _ (by assumption) | exact HKS2.out _ (Chg.trans (by assumption) (Chg.cell1 _ _ _ _))) (first | (go_at_call 38; refine (clone_calls _ _ _ _ _ (HBL2.out _ (Chg.drew _ _)) (by omega)).mono ?_; rintro e w' ⟨rfl, rfl⟩) | (refine step_app_own rfl (.tmp 148) (.tmp 151) 28 rfl 5 iv (.int .u8 0) 1 1 Try.underlying28 hv hv0 hv1 hv2 rfl (by decide) (some ⟨w9.heap.size, 0, none⟩) m.certain m.certain (bcells (m.log.take m.certain)) rfl HOW2.out ra kk rc (bcells ((m.log.drop m.certain ++ m.tail).take kk)) rfl HRN.out ((HBR2.out w9 (Chg.refl _ _)).lenc.trans (Nat.mul_one _).symm) (HBR2.out _ ((Chg.alloc _ _ _).trans (Chg.drew _ _))).cell (bcells_one _) (by unfold maxLen; omega) (by omega) ?_; intro fa fc w12 hr12 hc12 hat12; have hcz12 : Chg NoB w9 w12 := (((Chg.alloc _ _ _).trans (Chg.drew _ _)).trans' hc12 (fun i hi => (by obtain ⟨b, hb, rfl⟩ := hi; cases hb; exact .inr (Nat.le_refl _)))); have hcob : Chg (fun k => k = w.heap.size + 2) w9 w12 := hcz12.mono (fun _ f => f.elim); have g12 : w12.cell? ⟨w.heap.size + 2, 4, none⟩ = some (.slice none 0 0) := (by rw [cell_of_row w12 _ _ _ _ _ (hcz12.blk HB9.out (fun f => f))]; rfl); have k12 : w12.frozen? ⟨w.heap.size + 2, 4, none⟩ = false := (by simp [World.frozen?, hcz12.blk HB9.out (fun f => f)])))
        have hbX := setCell_blk (i := 4) (hcz12.blk HB9.out (fun f => f)) (.slice fa (m.certain + kk) fc)
        have hcX : Chg (fun k => k = w.heap.size + 2) w9 (w12.setCell ⟨w.heap.size + 2, 4, none⟩ (.slice fa (m.certain + kk) fc)) := hcob.trans (Chg.cell1 _ _ _ _)
        have hfaB : ∀ k, blkOf fa k → w9.heap.size ≤ k ∧ k < w12.heap.size := by
          intro k hk
          refine ⟨?_, blkOf_lt_row hr12 k hk⟩
          rcases hat12 k hk with ⟨b, hb, rfl⟩ | hh
          · cases hb; exact Nat.le_refl _
          · simp only [World.size_drew, World.size_alloc] at hh; omega
        have hrX := ownsRow_chg hr12 (Chg.cell1 w12 (w.heap.size + 2) 4 (.slice fa (m.certain + kk) fc)) (fun b hb e => by have := hfaB _ ⟨b, hb, rfl⟩; omega)
        have hszX : (w12.setCell ⟨w.heap.size + 2, 4, none⟩ (.slice fa (m.certain + kk) fc)).heap.size = w12.heap.size := by simp
        have hobX := heap_lt hbX
        generalize w12.setCell ⟨w.heap.size + 2, 4, none⟩ (.slice fa (m.certain + kk) fc) = wX at hbX hcX hrX hszX hobX ⊢
        have b4 : wX.cell? ⟨w.heap.size + 2, 4, none⟩ = some (.slice fa (m.certain + kk) fc) := by rw [cell_of_row wX _ _ _ _ _ hbX]; simp [dcells]
        have b5 : wX.cell? ⟨w.heap.size + 2, 5, none⟩ = some (.int .i64 0) := by rw [cell_of_row wX _ _ _ _ _ hbX]; simp [dcells, DM.fresh]
        have b6 : wX.cell? ⟨w.heap.size + 2, 6, none⟩ = some (.slice none 0 0) := by rw [cell_of_row wX _ _ _ _ _ hbX]; simp [dcells, DM.fresh, freshL]
        have n5 : wX.frozen? ⟨w.heap.size + 2, 5, none⟩ = false := by simp [World.frozen?, hbX]
        have n6 : wX.frozen? ⟨w.heap.size + 2, 6, none⟩ = false := by simp [World.frozen?, hbX]
        have hXS := hcX.blk HB9S.out (fun e => by omega)
        have s6 : ∀ V, (wX.setCell ⟨w.heap.size + 2, 5, none⟩ V).cell? ⟨sb, 6, none⟩ = some (.slice L.ma m.mark.length L.mc) := fun V => by
          rw [(Chg.cell1 wX (w.heap.size + 2) 5 V).cell (p := ⟨sb, 6, none⟩) (heap_lt hXS) (fun e => by have : sb = w.heap.size + 2 := e; omega), cell_of_row wX _ _ _ _ _ hXS]; rfl
        have BM : ∀ w', Chg (fun k => k = w.heap.size + 2) wX w' → BS w' L.ma m.mark.length L.mc m.mark := fun w' hc => ((h.mem.mark.chg0 hcw9).chg hcX (fun b hb e => by have := (h.sep _ (h.mem.markC b hb)).2; omega)).chg hc (fun b hb e => by have := (h.sep _ (h.mem.markC b hb)).2; omega)
        have HBM := hide BM; clear BM
        have HBX := hide hbX; clear hbX
        have HSZ := hide hszX; clear hszX
        clear g12 k12 hr12 hc12 hat12 hcob
        go_wp2_with fail
        refine (clone_calls _ _ _ _ _ (HBM.out _ (Chg.cell1 _ _ _ _)) (by omega)).mono ?_
        rintro e w13 ⟨rfl, rfl⟩
        go_wp2_with fail
        go_ret
        have hcE : Chg (fun k => k = w.heap.size + 2) wX (((wX.setCell ⟨w.heap.size + 2, 5, none⟩ (.int .i64 ((m.certain : Int) + (kk : Int)))).setCell ⟨w.heap.size + 2, 6, none⟩ (.slice (some ⟨wX.heap.size, 0, none⟩) m.mark.length m.mark.length)).alloc (.cells (bcells m.mark).toArray 5)) :=
          ((Chg.cell1 _ _ _ _).trans (Chg.cell1 _ _ _ _)).trans (Chg.alloc _ _ _)
        have hbE := alloc_blk (setCell_blk (i := 6) (setCell_blk (i := 5) HBX.out (.int .i64 ((m.certain : Int) + (kk : Int)))) (.slice (some ⟨wX.heap.size, 0, none⟩) m.mark.length m.mark.length)) (.cells (bcells m.mark).toArray 5)
        have hdE : ((((dcells (DM.fresh m.base.length m.room) (freshL w.heap.size m.base.length)).setIfInBounds 4 (.slice fa (m.certain + kk) fc)).setIfInBounds 5 (.int .i64 ((m.certain : Int) + (kk : Int)))).setIfInBounds 6 (.slice (some ⟨wX.heap.size, 0, none⟩) m.mark.length m.mark.length)) =
            #[.int .i64 m.room, .slice (some ⟨w.heap.size, 0, none⟩) m.base.length m.base.length, .slice none 0 0, .map (some (w.heap.size + 1)), .slice fa (m.certain + kk) fc, .int .i64 ((m.certain : Int) + (kk : Int)),
              .slice (some ⟨wX.heap.size, 0, none⟩) m.mark.length m.mark.length, .int .i64 (-1), .int .i64 0, .bool false, .pointer none, .slice none 0 0] := by simp [dcells, DM.fresh, freshL]
        rw [hdE] at hbE
        have hmE : (((wX.setCell ⟨w.heap.size + 2, 5, none⟩ (.int .i64 ((m.certain : Int) + (kk : Int)))).setCell ⟨w.heap.size + 2, 6, none⟩ (.slice (some ⟨wX.heap.size, 0, none⟩) m.mark.length m.mark.length)).alloc (.cells (bcells m.mark).toArray 5)).heap[wX.heap.size]? = some (.cells (bcells m.mark).toArray 5 (0, 0)) := heap_alloc_new' _ (by simp) _
        generalize ((wX.setCell ⟨w.heap.size + 2, 5, none⟩ (.int .i64 ((m.certain : Int) + (kk : Int)))).setCell ⟨w.heap.size + 2, 6, none⟩ (.slice (some ⟨wX.heap.size, 0, none⟩) m.mark.length m.mark.length)).alloc (.cells (bcells m.mark).toArray 5) = wE at hcE hbE hmE ⊢
        have hz9 := hcz9.size
        have hc9E : Chg (fun k => k = w.heap.size + 2) w9 wE := hcX.trans hcE
        have hczE : Chg (fun k => k = w.heap.size + 2) wz wE := (hcz9.mono fun _ f => f.elim).trans hc9E
        have hcWE : Chg NoB w wE := hcw9.trans' hc9E (fun i hi => .inr (by omega))
        have hCn : ∀ k, (C k ∨ T k) → ¬ k = w.heap.size + 2 := fun k hk e => by
          rcases hk with hk | hk
          · have := (h.sep k hk).2; omega
          · have := hTW.out k hk; omega
        have hplen2 : pf.length = m.base.length := by
          have e1 := congrArg List.length hlW.out
          rw [List.length_map, (show (m.crash cl).base.length = m.base.length from crash_len m cl)] at e1
          exact e1.symm
        obtain ⟨F', C', hD, hF', hC'⟩ := crash_end (cl := cl) (pf := pf) (T := T) (fa := fa) (fc := fc) (mg := wX.heap.size) (kk := kk) (B1 := w9.heap.size) h hcWE (hczE.blk qW.out (by omega)) (fun k hk => ⟨(hTW.out k hk).1, by have := (hTW.out k hk).2; omega⟩)
          (fun r hr => (hpW.out r hr).chg hczE hCn) hlW.out hplen2 (m3.chg hczE (fun e => by omega)) HKK.out hbE (ownsRow_chg hrX hcE (fun b hb e => by have := hfaB _ ⟨b, hb, rfl⟩; omega)) (fun k hk => by have := hfaB k hk; have := HSZ.out; omega) (by omega) (by have := hcX.size; omega) hmE
        exact ⟨w.heap.size + 2, F', C', rfl, hD, hcWE, hF', hC'⟩
end
end Go.Proofs.Ythgejjlhfdegeaa
