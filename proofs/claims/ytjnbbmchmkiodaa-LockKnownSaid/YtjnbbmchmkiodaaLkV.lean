/- blockers: whom an owner waits for. -/
import Derived.Test.YtjnbbmchmkiodaaLkT
import Derived.Test.YtjnbbmchmkiodaaHeld
namespace Go.Proofs.Ytjnbbmchmkiodaa
open Go.RowKit Go.MapKept

set_option linter.unusedSimpArgs false
set_option linter.unusedVariables false
/-- Those ahead of an owner in a queue. -/
def ahead (x : Int) (q : List (Int × Int)) : List Int := (q.map (·.1)).takeWhile (fun u => !(u == x))
/-- An owner waits for another one. -/
def blk (m : TM) (x u : Int) : Prop := ∃ gr p, m.waits x = some gr ∧ m.pl gr.1 = some p ∧ ((∃ md, p.held u = some md ∧ u ≠ x ∧ togB md gr.2 = false) ∨ u ∈ ahead x p.queue)
/-- Who holds is in a list; the queue is not long. -/
structure PBd (p : PlM) (hl : List Int) : Prop where
  mem : ∀ u, p.held u ≠ none → u ∈ hl
  hn : hl.length ≤ 3000000000000
  qn : p.queue.length ≤ 3000000000000
theorem nodup_len {α : Type} [DecidableEq α] (xs l : List α) (h : xs.Nodup) (hs : ∀ x ∈ xs, x ∈ l) : xs.length ≤ l.length := length_le_of_mem xs l h hs
theorem lt_eq {a b c : Nat} (h : a = b) (k : b < c) : a < c := h ▸ k
theorem news1 (w : World) (x : Int) : ∀ ad : Addr, some (⟨w.heap.size, 0, none⟩ : Addr) = some ad → ∀ j u, [Value.int .u64 x][j]? = some u → (w.alloc (.cells #[.int .u64 x] 29)).cell? (ad.add j) = some u := by
  rintro ad hh j u hu
  cases hh
  rw [add_zero_off]
  cases j with
  | zero => simp at hu; subst hu; rw [cell_of_row _ _ _ _ _ _ (heap_alloc_new w _)]; rfl
  | succ j => simp at hu
/-- An append to a row leaves a range as it is. -/
theorem Ranges.other {κ : Type} {wx wy : World} {b r : Nat} {d : TypeDesc} {enc : κ → Value} {f : κ → Option Value} {V : κ → Prop} {base n c k : Nat} {e : TypeId} {a : Option Addr} {xs : List Value} (h : Ranges wx b r d enc f V) (hr : wx.ownsRow base e 1 (.slice a n c) k xs) (hc : Chg (fun k => ∃ b, a = some b ∧ b.block = k) wx wy) :
    Ranges wy b r d enc f V ∧ wy.rangeLeft b r = wx.rangeLeft b r := by
  obtain ⟨es, clock, seen, h1, h2, h3, h4⟩ := h.ex
  have hno : ∀ i o, wx.heap[i]? = some o → (∀ cs t fr, o ≠ .cells cs t fr) → ¬ ∃ b, a = some b ∧ b.block = i := fun i o ho hn hb => by
    obtain ⟨b0, e1, e2⟩ := hb
    rcases hr.2 with ⟨hv, _⟩ | ⟨g, cap, cur, hv, _, hg, _⟩
    · simp only [Value.slice.injEq] at hv; rw [hv.1] at e1; cases e1
    · simp only [Value.slice.injEq] at hv
      rw [hv.1] at e1
      cases e1
      simp only at e2
      subst e2
      rw [hg] at ho
      cases ho
      exact hn _ _ _ rfl
  have n1 := hno b _ h1 (fun cs t fr e => by cases e)
  have n2 := hno r _ h3 (fun cs t fr e => by cases e)
  exact ⟨h.chg hc n1 n2, rangeLeft_chg hc n1 n2 (heap_lt h1) (heap_lt h3)⟩
def BlkR (w : World) (ρ : Nat → Role) (m : TM) (x : Int) (e : Ending) (w' : World) : Prop := ∃ v bs, e = .returned v ∧ Rw w w' ρ v bs ∧ (∀ u, u ∈ bs ↔ blk m x u) ∧ bs.length ≤ 6000000000000 ∧ Chg NoB w w'

theorem mem_keep {bs : List Int} {V : Int → Prop} {p : PlM} {x g2 k : Int} (hmem : ∀ u, u ∈ bs ↔ V u ∧ ∃ md, p.held u = some md ∧ u ≠ x ∧ togB md g2 = false) (hk : ¬ ∃ md, p.held k = some md ∧ k ≠ x ∧ togB md g2 = false) :
    ∀ u, u ∈ bs ↔ (V u ∨ encU u = encU k) ∧ ∃ md, p.held u = some md ∧ u ≠ x ∧ togB md g2 = false := fun u => by
  rw [hmem u]
  constructor
  · rintro ⟨h1, h2⟩; exact ⟨.inl h1, h2⟩
  · rintro ⟨h1 | h1, h2⟩
    · exact ⟨h1, h2⟩
    · rw [encU_inj _ _ h1] at h2; exact absurd h2 hk
theorem mem_add {bs : List Int} {V : Int → Prop} {p : PlM} {x g2 k : Int} (hmem : ∀ u, u ∈ bs ↔ V u ∧ ∃ md, p.held u = some md ∧ u ≠ x ∧ togB md g2 = false) (hk : ∃ md, p.held k = some md ∧ k ≠ x ∧ togB md g2 = false) :
    ∀ u, u ∈ bs ++ [k] ↔ (V u ∨ encU u = encU k) ∧ ∃ md, p.held u = some md ∧ u ≠ x ∧ togB md g2 = false := fun u => by
  rw [List.mem_append, List.mem_singleton, hmem u]
  constructor
  · rintro (⟨h1, h2⟩ | rfl)
    · exact ⟨.inl h1, h2⟩
    · exact ⟨.inr rfl, hk⟩
  · rintro ⟨h1 | h1, h2⟩
    · exact .inl ⟨h1, h2⟩
    · exact .inr (encU_inj _ _ h1)
theorem ahead_at {x : Int} {q : List (Int × Int)} {j : Nat} {y : Int × Int} (hy : q[j]? = some y) (hx : y.1 = x) (hn : ∀ z ∈ q.take j, z.1 ≠ x) : ahead x q = (q.take j).map (·.1) := by
  have hq : q = q.take j ++ y :: q.drop (j + 1) := by
    obtain ⟨hj, rfl⟩ := List.getElem?_eq_some_iff.1 hy
    rw [← List.drop_eq_getElem_cons hj, List.take_append_drop]
  generalize q.take j = a at hq hn
  rw [hq]
  unfold ahead
  rw [List.map_append, List.takeWhile_append_of_pos (by
    intro u hu
    obtain ⟨z, hz, rfl⟩ := List.mem_map.1 hu
    simp [hn z hz])]
  simp [hx]
theorem ahead_all {x : Int} {q : List (Int × Int)} (hn : ∀ z ∈ q, z.1 ≠ x) : ahead x q = q.map (·.1) := by
  unfold ahead
  have := List.takeWhile_append_of_pos (p := fun u => !(u == x)) (l₁ := q.map (·.1)) (l₂ := []) (by
    intro u hu
    obtain ⟨z, hz, rfl⟩ := List.mem_map.1 hu
    simp [hn z hz])
  simpa using this
theorem blk_iff {m : TM} {x : Int} {gr : ByteArray × Int} {p : PlM} {bs : List Int} (hw : m.waits x = some gr) (hp : m.pl gr.1 = some p) (hm : ∀ u, u ∈ bs ↔ ∃ md, p.held u = some md ∧ u ≠ x ∧ togB md gr.2 = false) (u : Int) : u ∈ bs ++ ahead x p.queue ↔ blk m x u := by
  rw [List.mem_append, hm u]
  constructor
  · intro h; exact ⟨gr, p, hw, hp, h⟩
  · rintro ⟨gr', p', h1, h2, h3⟩
    rw [hw] at h1
    cases h1
    rw [hp] at h2
    cases h2
    exact h3
theorem blk_fin {w w1 wy : World} {ρ : Nat → Role} {m : TM} {x : Int} {gr : ByteArray × Int} {p : PlM} {hl bs tk : List Int} {ov : Value} (hca : Chg NoB w w1) (hch : Chg NoB w1 wy) (hrw : Rw w1 wy ρ ov (bs ++ tk)) (hw : m.waits x = some gr) (hp : m.pl gr.1 = some p) (hbd : PBd p hl) (hbl : bs.length ≤ 3000000000000)
    (hm : ∀ u, u ∈ bs ↔ ∃ md, p.held u = some md ∧ u ≠ x ∧ togB md gr.2 = false) (htk : ahead x p.queue = tk) : BlkR w ρ m x (.returned ov) wy := by
  subst htk
  refine ⟨ov, _, rfl, hrw.mono hca.size, fun u => blk_iff hw hp hm u, ?_, hca.trans hch⟩
  have h1 : (ahead x p.queue).length ≤ p.queue.length := by
    unfold ahead
    exact Nat.le_trans (List.takeWhile_sublist _).length_le (by simp)
  have := hbd.qn
  simp only [List.length_append]; omega
set_option maxHeartbeats 2000000 in
set_option maxRecDepth 100000 in
theorem blockers_calls {w : World} {tb : Nat} {m : TM} {L : TL} {ρ : Nat → Role} (h : Tab w tb m L ρ) (x : Int) (hb : ∀ gr, m.waits x = some gr → ∃ p hl, m.pl gr.1 = some p ∧ PBd p hl) :
    Calls Try.prog 59 #[.pointer (some ⟨tb, 0, none⟩), .int .u64 x] w (BlkR w ρ m x) := by
  have c1 : w.cell? ⟨tb, 1, none⟩ = some (.map (some L.tw)) := by rw [cell_of_row w _ _ _ _ _ h.blk]; rfl
  have HH := hide h
  cases hw : m.waits x with
  | none =>
    have HL : Hid (waitsF m x = none) := hide (by simp [waitsF, hw])
    have HM := hide h.mw
    have HW := hide hw
    clear h hb hw
    go_enter Try.func59, Try.ntmps59
    go_wp2_with (at_lookup; refine wpList_look_none rfl (.tmp 17) (.tmp 18) 63 rfl 29 33 (.agg #[.string ⟨#[]⟩, .int .i64 0]) Try.underlying63 Try.underlying29 encU_key zeroGr L.tw rfl HM.out x rfl HL.out ?_)
    go_ret
    have hn : ∀ u, u ∈ ([] : List Int) ↔ blk m x u := fun u => ⟨(fun hu => by cases hu), fun ⟨gr, p, h1, _⟩ => by rw [HW.out] at h1; cases h1⟩
    exact ⟨_, [], rfl, Rw.nil _ _ _, hn, by simp, Chg.alloc _ _ _⟩
  | some gr =>
    obtain ⟨p, hl, hp, hbd⟩ := hb gr hw
    have HL : Hid (waitsF m x = some (.agg #[.string gr.1, .int .i64 gr.2])) := hide (by simp [waitsF, hw])
    have HM := hide h.mw
    have HW := hide hw; have HP := hide hp; have HBD := hide hbd
    have hca := Chg.alloc NoB w (.cells #[.string gr.1, .int .i64 gr.2] 33)
    have hgb : (w.alloc (.cells #[.string gr.1, .int .i64 gr.2] 33)).heap[w.heap.size]? = some (.cells #[.string gr.1, .int .i64 gr.2] 33) := heap_alloc_new w _
    have hT1 := h.chg0 hca
    have hlp : (placesF m L gr.1).getD (.pointer none) = .pointer (some ⟨(L.pl gr.1).pb, 0, none⟩) := by simp [placesF, hp]
    have hS5 : (fun w' : World => w'.cell? ⟨tb, 0, none⟩ = some (.map (some L.tp)) ∧ w'.cell? ⟨w.heap.size, 0, none⟩ = some (.string gr.1)) (w.alloc (.cells #[.string gr.1, .int .i64 gr.2] 33)).drew := ⟨by
        show (w.alloc (.cells #[.string gr.1, .int .i64 gr.2] 33)).cell? _ = _
        rw [cell_of_row _ _ _ _ _ _ hT1.blk]; rfl, by
        show (w.alloc (.cells #[.string gr.1, .int .i64 gr.2] 33)).cell? _ = _
        rw [cell_of_row _ _ _ _ _ _ hgb]; rfl⟩
    have HS5 := hide hS5; have HLP := hide hlp; have HMP := hide (hT1.mp.chg (Chg.drew NoB _) (fun f => f)); have HT1 := hide (hT1.chg0 (Chg.drew NoB _)); have HGB := hide (show (w.alloc (.cells #[.string gr.1, .int .i64 gr.2] 33)).drew.heap[w.heap.size]? = some (.cells #[.string gr.1, .int .i64 gr.2] 33) from hgb); have HCA := hide (hca.trans (Chg.drew _ _))
    clear h hb hw hp hbd hca hgb hT1 hlp hS5
    go_enter Try.func59, Try.ntmps59
    go_upto_region 5 with (at_lookup; refine wpList_look_some rfl (.tmp 17) (.tmp 18) 63 rfl 29 33 (.agg #[.string ⟨#[]⟩, .int .i64 0]) Try.underlying63 Try.underlying29 encU_key zeroGr L.tw rfl HM.out x rfl _ HL.out ?_)
    refine AnyM.region (S := fun w' : World => w'.cell? ⟨tb, 0, none⟩ = some (.map (some L.tp)) ∧ w'.cell? ⟨w.heap.size, 0, none⟩ = some (.string gr.1)) (late := fun _ => false) (by kernel_rfl) ?_
    have hHeld : (fun w' : World => w'.cell? ⟨tb, 0, none⟩ = some (.map (some L.tp)) ∧ w'.cell? ⟨w.heap.size, 0, none⟩ = some (.string gr.1)) _ := HS5.out
    refine AnyM.take (i := 0) (v := ?v0) rfl (by kernel_rfl) (by kernel_rfl) rfl (by kernel_rfl) (by kernel_rfl) (fun _ _ _ h => h) (Or.inl ⟨by rfl, ?y0⟩) hHeld ?r0
    case y0 => (intro w hSw; (try dsimp only at hSw); obtain ⟨q1, q2⟩ := hSw; go_simp; try with_reducible rfl)
    try simp only [Act.put, List.setIfInBounds_toArray, List.set_cons_zero, List.set_cons_succ, List.getElem_cons_zero, List.getElem_cons_succ, List.getElem_toArray]
    refine AnyM.take (i := 1) (v := ?v1) rfl (by kernel_rfl) (by kernel_rfl) rfl (by kernel_rfl) (by kernel_rfl) (fun _ _ _ h => h) (Or.inl ⟨by rfl, ?y1⟩) hHeld ?r1
    case y1 => (intro w hSw; (try dsimp only at hSw); obtain ⟨q1, q2⟩ := hSw; go_simp; try with_reducible rfl)
    try simp only [Act.put, List.setIfInBounds_toArray, List.set_cons_zero, List.set_cons_succ, List.getElem_cons_zero, List.getElem_cons_succ, List.getElem_toArray]
    refine AnyM.take (i := 2) (v := ?v2) rfl (by kernel_rfl) (by kernel_rfl) rfl (by kernel_rfl) (by kernel_rfl) (fun _ _ _ h => h) (Or.inl ⟨by rfl, ?y2⟩) hHeld ?r2
    case y2 => (intro w hSw; (try dsimp only at hSw); obtain ⟨q1, q2⟩ := hSw; go_simp; try with_reducible rfl)
    try simp only [Act.put, List.setIfInBounds_toArray, List.set_cons_zero, List.set_cons_succ, List.getElem_cons_zero, List.getElem_cons_succ, List.getElem_toArray]
    refine AnyM.take (i := 3) (v := ?v3) rfl (by kernel_rfl) (by kernel_rfl) rfl (by kernel_rfl) (by kernel_rfl) (fun _ _ _ h => h) (Or.inl ⟨by rfl, ?y3⟩) hHeld ?r3
    case y3 => (intro w hSw; (try dsimp only at hSw); obtain ⟨q1, q2⟩ := hSw; go_simp; try with_reducible rfl)
    try simp only [Act.put, List.setIfInBounds_toArray, List.set_cons_zero, List.set_cons_succ, List.getElem_cons_zero, List.getElem_cons_succ, List.getElem_toArray]
    refine AnyM.take (i := 4) (v := ?v4) rfl (by kernel_rfl) (by kernel_rfl) rfl (by kernel_rfl) (by kernel_rfl) (fun _ _ _ h => h) (Or.inl ⟨by rfl, ?y4⟩) hHeld ?r4
    case y4 => (intro w hSw; (try dsimp only at hSw); obtain ⟨q1, q2⟩ := hSw; go_simp; try with_reducible rfl)
    try simp only [Act.put, List.setIfInBounds_toArray, List.set_cons_zero, List.set_cons_succ, List.getElem_cons_zero, List.getElem_cons_succ, List.getElem_toArray]
    refine AnyM.take (i := 5) (v := ?v5) rfl (by kernel_rfl) (by kernel_rfl) rfl (by kernel_rfl) (by kernel_rfl) (fun _ _ _ h => h) (Or.inl ⟨by rfl, ?y5⟩) hHeld ?r5
    case y5 => (intro w hSw; (try dsimp only at hSw); obtain ⟨q1, q2⟩ := hSw; go_simp; try with_reducible rfl)
    try simp only [Act.put, List.setIfInBounds_toArray, List.set_cons_zero, List.set_cons_succ, List.getElem_cons_zero, List.getElem_cons_succ, List.getElem_toArray]
    refine AnyM.step (i := 6) (by kernel_rfl) rfl rfl (fun K hK => ?_)
    refine step_look1 rfl (.tmp 27) (.tmp 29) 62 rfl 9 67 (.pointer none) Try.underlying62 Try.underlying9 encS_key zeroPl L.tp rfl HMP.out gr.1 rfl _ HLP.out ?_
    clear hHeld
    refine hK.out _ _ (by first | exact HS5.out) (fun hHeld => ?_)
    clear hK K
    try simp only [Act.put, List.setIfInBounds_toArray, List.set_cons_zero, List.set_cons_succ, List.getElem_cons_zero, List.getElem_cons_succ, List.getElem_toArray]
    refine AnyM.take (i := 7) (v := ?v7) rfl (by kernel_rfl) (by kernel_rfl) rfl (by kernel_rfl) (by kernel_rfl) (fun _ _ _ h => h) (Or.inl ⟨by rfl, ?y7⟩) hHeld ?r7
    case y7 => (intro w hSw; (try dsimp only at hSw); obtain ⟨q1, q2⟩ := hSw; go_simp; try with_reducible rfl)
    try simp only [Act.put, List.setIfInBounds_toArray, List.set_cons_zero, List.set_cons_succ, List.getElem_cons_zero, List.getElem_cons_succ, List.getElem_toArray]
    refine AnyM.done (by kernel_rfl) ?_ _
    obtain ⟨g1, -, -, -⟩ := HT1.out.pl gr.1 p HP.out
    clear hHeld HS5 HMP HLP c1
    generalize World.drew (w.alloc (.cells #[.string gr.1, .int .i64 gr.2] 33)) = w1 at HT1 HGB HCA g1 ⊢
    have k0 : w1.cell? ⟨(L.pl gr.1).pb, 0, none⟩ = some (.map (some (L.pl gr.1).hb)) := by rw [cell_of_row w1 _ _ _ _ _ g1.blk]; rfl
    have HG1 := hide g1
    clear g1
    have hlt : w.heap.size < w1.heap.size := heap_lt HGB.out
    have HLT := hide hlt
    obtain ⟨iu, hiu, hzu0, hzu1, hzu2⟩ := info_parts infoU64
    have HIU := hide (And.intro hiu (And.intro hzu0 (And.intro hzu1 hzu2)))
    clear hiu hzu0 hzu1 hzu2 hlt
    go_wp2_with (at_range; refine wpList_rng rfl _ 68 rfl 29 3 Try.underlying68 (L.pl gr.1).hb rfl HG1.out.held ?_; intro w2 hr2 hc2 hs2)
    try go_frame
    have HR2 := hide hr2; have HC2 := hide hc2
    clear hr2 hc2 hs2 k0
    go_loopw [7] (fun ov wr => ∃ V bs, Ranges wr (L.pl gr.1).hb w1.heap.size (.int .u64) encU (heldF p) V ∧ Chg NoB w1 wr ∧ Rw w1 wr ρ ov bs ∧ (∀ u, u ∈ bs ↔ V u ∧ ∃ md, p.held u = some md ∧ u ≠ x ∧ togB md gr.2 = false) ∧ bs.Nodup) (fun _ wr => wr.rangeLeft (L.pl gr.1).hb w1.heap.size)
    case atStart => exact ⟨_, [], HR2.out, HC2.out, Rw.nil _ _ _, (fun u => by simp), by simp⟩
    case round =>
      obtain ⟨V, bs, hrg, hch, hrw, hmem, hnd⟩ := hrel
      clear HR2 HC2
      have HCH := hide hch; have HRW := hide hrw; have HMEM := hide hmem; have HND := hide hnd
      clear hch hrw hmem hnd
      go_wp2_with (at_next; refine wpList_nxt rfl _ rfl (L.pl gr.1).hb w1.heap.size rfl hrg ?_ ?_)
      · intro _ hv
        have hful : ∀ u, u ∈ bs ↔ ∃ md, p.held u = some md ∧ u ≠ x ∧ togB md gr.2 = false := fun u => by
          rw [HMEM.out u]
          exact ⟨fun h => h.2, fun ⟨md, h1, h2⟩ => ⟨hv u (.int .i64 md) (by simp [heldF, h1]), md, h1, h2⟩⟩
        have hbl : bs.length ≤ 3000000000000 := Nat.le_trans (length_le_of_mem bs hl HND.out (fun u hu => HBD.out.mem u (by obtain ⟨md, h1, _⟩ := (hful u).1 hu; rw [h1]; simp))) HBD.out.hn
        have HFUL := hide hful; have HBL := hide hbl
        clear hv hful hbl hrg
        have hgw := HG1.out.chg HCH.out (fun f => f) (fun f => f) (fun _ _ f => f)
        have k1 : wr.cell? ⟨(L.pl gr.1).pb, 1, none⟩ = some (.slice (L.pl gr.1).qa p.queue.length (L.pl gr.1).qc) := by rw [cell_of_row wr _ _ _ _ _ hgw.blk]; rfl
        have HQ := hide (HG1.out.queue)
        clear hgw
        obtain ⟨wo, rfl⟩ : ∃ wo : World, wo = wr := ⟨_, rfl⟩
        have hqn := HBD.out.qn
        go_wp2_with fail
        go_loopw [7, 60] (fun ov v wr => ∃ j : Nat, j ≤ p.queue.length ∧ v = .int .i64 j ∧ Chg NoB w1 wr ∧ Rw w1 wr ρ ov (bs ++ (p.queue.take j).map (·.1)) ∧ ∀ z ∈ p.queue.take j, z.1 ≠ x) (fun _ v _ => p.queue.length - (intOf v).toNat)
        case atStart => exact ⟨0, Nat.zero_le _, rfl, HCH.out, by simpa using HRW.out, by simp⟩
        case round =>
          obtain ⟨j, hj, rfl, hch2, hrw2, hno⟩ := hrel
          have HCH2 := hide hch2; have HRW2 := hide hrw2; have HNO := hide hno
          clear hch2 hrw2 hno k1
          by_cases hlt : j < p.queue.length
          · have hy : p.queue[j]? = some p.queue[j] := List.getElem?_eq_getElem hlt
            have htk : p.queue.take (j + 1) = p.queue.take j ++ [p.queue[j]] := by rw [List.take_succ_eq_append_getElem hlt]
            generalize p.queue[j] = y at hy htk
            obtain ⟨ow, md⟩ := y
            obtain ⟨g, off, hqa, k2, k3⟩ := HQ.out.cells hy
            have k2 : wr.cell? ⟨g, off + j * 2, none⟩ = some (.int .u64 ow) := (HCH2.out.cell (cell_some k2).1 (fun f => f)).trans k2
            have k3 : wr.cell? ⟨g, off + j * 2 + 1, none⟩ = some (.int .i64 md) := (HCH2.out.cell (cell_some k3).1 (fun f => f)).trans k3
            rw [hqa]
            have HTK := hide htk; have HY := hide hy
            clear htk hy hqa
            have hj1 : (j : Int) < (p.queue.length : Int) := by omega
            have hj0 : (0 : Int) ≤ (j : Int) := by omega
            by_cases hox : ow = x
            · have e0 : (ow == x) = true := by simp [hox]
              have HAH := hide (ahead_at HY.out hox HNO.out)
              clear hox
              go_wp2_with fail
              go_ret
              exact blk_fin HCA.out (HCH2.out.trans (Chg.alloc _ _ _)) (HRW2.out.new (Chg.alloc _ _ _)) HW.out HP.out HBD.out HBL.out HFUL.out HAH.out
            · have e0 : (ow == x) = false := by simp [hox]
              obtain ⟨oa, oc, rfl, -⟩ := HRW2.out.form
              have hrA := HRW2.out.new (Chg.alloc NoB wr (.cells #[.int .u64 ow, .int .i64 md] 77))
              have hxA := heap_alloc_new wr (.cells #[.int .u64 ow, .int .i64 md] 77)
              have hcA := HCH2.out.trans (Chg.alloc NoB wr (.cells #[.int .u64 ow, .int .i64 md] 77))
              have HOX := hide hox; have HRA := hide hrA; have HXA := hide hxA; have HCA2 := hide hcA
              clear hox hrA hxA hcA
              go_upto_region 15 with (fail)
              generalize wr.alloc (.cells #[.int .u64 ow, .int .i64 md] 77) = wa at HRA HXA HCA2 ⊢
              generalize wr.heap.size = xb at HXA ⊢
              have kx : wa.cell? ⟨xb, 0, none⟩ = some (.int .u64 ow) := by rw [cell_of_row _ _ _ _ _ _ HXA.out]; rfl
              have hrB := HRA.out.new (Chg.alloc NoB wa (.cells #[.int .u64 ow] 29))
              obtain ⟨_, _, hv, hrow⟩ := hrB.form
              simp only [Value.slice.injEq, true_and] at hv
              obtain ⟨rfl, rfl⟩ := hv
              have HROW := hide hrow; have HRB := hide hrB; have HNW := hide (news1 wa ow)
              have hle : (bs ++ (p.queue.take j).map (·.1)).length ≤ 6000000000000 := by have := HBL.out; have := HBD.out.qn; simp only [List.length_append, List.length_map, List.length_take]; omega
              have HLE := hide hle
              clear hrow hrB hle k2 k3
              generalize hbx : bs ++ (p.queue.take j).map (·.1) = bx at HLE HROW HRB HRA ⊢
              have HBX := hide hbx; clear hbx
              go_wp2_with (at_builtin; refine wpList_app_own rfl (.tmp 68) (.tmp 71) 36 rfl 29 iu (.int .u64 0) 1 8 Try.underlying36 HIU.out.1 HIU.out.2.1 HIU.out.2.2.1 HIU.out.2.2.2 rfl (by decide) oa bx.length oc _ rfl HROW.out _ 1 1 [.int .u64 ow] rfl (fun h => by cases h) rfl HNW.out (fun u hu => by simp at hu; subst hu; rfl) (by have := HLE.out; unfold maxLen; omega) (by have := HLE.out; omega) (Hid.out ?_))
              refine hide (fun a' c' wz hrz hcz hnz => ?_)
              have hn' : ∀ k, (∃ b, a' = some b ∧ b.block = k) → (∃ b, oa = some b ∧ b.block = k) ∨ (World.heap (wa.alloc (.cells #[.int .u64 ow] 29))).size ≤ k := fun k hk => by
                obtain ⟨b, e1, e2⟩ := hk
                rw [← e2]
                simpa using hnz b e1
              have hF : ∀ k, (∃ b, oa = some b ∧ b.block = k) → w1.heap.size ≤ k ∧ ρ k = .none := fun k hk => by
                obtain ⟨b, h1, h2⟩ := hk
                subst h1
                have := HRB.out.lt rfl
                rw [← h2]; exact this.2
              have hsz1 : w1.heap.size ≤ (World.heap (wa.alloc (.cells #[.int .u64 ow] 29))).size := (HCA2.out.trans (Chg.alloc _ _ _)).size
              have hrZ := HRB.out.app (ys := [ow]) (k := 1) (fun k hk => HH.out.fresh (Nat.le_trans HCA.out.size (Nat.le_trans hsz1 hk))) hsz1 rfl hrz hn'
              have hwo1 : w1.heap.size ≤ wo.heap.size := HCH.out.size
              have hcZ0 : Chg NoB w1 wz := (HCA2.out.trans (Chg.alloc _ _ _)).trans' hcz (fun k hk => .inr (hF k hk).1)
              have HRZ := hide hrZ; have HCZ := hide hcZ0
              clear hrz hcz hnz hn' hF hsz1 hrZ hcZ0 hwo1
              try go_frame
              go_wp2_with fail
              go_roundw
              case rel =>
                refine ⟨j + 1, by omega, by go_num, HCZ.out, ?_, ?_⟩
                · rw [HTK.out, List.map_append, ← List.append_assoc, HBX.out]
                  exact HRZ.out
                · intro z hz
                  rw [HTK.out] at hz
                  rcases List.mem_append.1 hz with hz | hz
                  · exact HNO.out z hz
                  · simp at hz; subst hz; exact HOX.out
              case measure => simp [intOf]; omega
          · obtain rfl : j = p.queue.length := by omega
            have hj1 : ¬ (p.queue.length : Int) < (p.queue.length : Int) := by omega
            have hno := HNO.out
            have hrw := HRW2.out
            rw [List.take_length] at hno hrw
            have HAH := hide (ahead_all hno); have HRW3 := hide hrw
            clear hno hrw
            go_wp2_with fail
            go_ret
            exact blk_fin HCA.out (HCH2.out) HRW3.out HW.out HP.out HBD.out HBL.out HFUL.out HAH.out
      · intro k v w3 hfk hnv hrg3 hlt3 hc3 hs3 hen
        obtain ⟨md, hmd, rfl⟩ : ∃ md, p.held k = some md ∧ v = .int .i64 md := by
          unfold heldF at hfk
          cases hh : p.held k with
          | none => rw [hh] at hfk; cases hfk
          | some md => rw [hh] at hfk; simp at hfk; exact ⟨md, rfl, hfk.symm⟩
        unfold encU at hen
        have hch3 : Chg NoB w1 w3 := HCH.out.trans' hc3 (fun i hi => .inr (by have : i = w1.heap.size := hi; omega))
        have hrw3 : Rw w1 w3 ρ u7 bs := by
          obtain ⟨a, c, hv, hrow, hb⟩ := HRW.out
          refine ⟨a, c, hv, ownsRow_chg hrow hc3 (fun b e hk => ?_), hb⟩
          have hk : b.block = w1.heap.size := hk
          subst e
          obtain ⟨es, clock, seen, -, -, hit, -⟩ := hrg.ex
          rcases hrow.2 with ⟨hv2, _⟩ | ⟨g, cap, cur, hv2, _, hg, _⟩
          · simp at hv2
          · simp only [Value.slice.injEq, Option.some.injEq] at hv2
            rw [hv2.1] at hk
            simp only at hk
            subst hk
            rw [hit] at hg; cases hg
        have hgb3 : w3.heap[w.heap.size]? = some (.cells #[.string gr.1, .int .i64 gr.2] 33 (0, 0)) := hch3.blk HGB.out (fun f => f)
        have kb : w3.cell? ⟨w.heap.size, 1, none⟩ = some (.int .i64 gr.2) := by rw [cell_of_row _ _ _ _ _ _ hgb3]; rfl
        have HRG := hide hrg3; have HMD := hide hmd; have HCH3 := hide hch3; have HRW3 := hide hrw3
        clear hfk hrg3 hmd hch3 hrw3 hrg hgb3 hc3
        by_cases hko : k = x
        · have e0 : (k != x) = false := by simp [hko]
          have HMK := hide (mem_keep (k := k) HMEM.out (by rintro ⟨md', _, h2, _⟩; exact h2 hko))
          clear hko
          go_wp2_with fail
          go_roundw
          case rel => exact ⟨_, bs, HRG.out, HCH3.out, HRW3.out, HMK.out, HND.out⟩
          case measure => exact hlt3
        · have e0 : (k != x) = true := by simp [hko]
          have HKO := hide hko
          clear hko
          cases ht : togB md gr.2
          · have HMK := hide (mem_add (k := k) HMEM.out ⟨md, HMD.out, HKO.out, ht⟩)
            have hnk : k ∉ bs := fun hk => hnv ((HMEM.out k).1 hk).1
            have hnd : (bs ++ [k]).Nodup := List.nodup_append.2 ⟨HND.out, by simp, fun a ha b hb => by simp at hb; subst hb; rintro rfl; exact hnk ha⟩
            have hbl : (bs ++ [k]).length ≤ 3000000000000 := Nat.le_trans (length_le_of_mem _ hl hnd (fun u hu => HBD.out.mem u (by obtain ⟨_, md', h1, _⟩ := (HMK.out u).1 hu; rw [h1]; simp))) HBD.out.hn
            have HND2 := hide hnd; have HT := hide ht; have HBL := hide (show bs.length + 1 ≤ 3000000000000 by simpa using hbl)
            clear ht hnd hnk hbl
            go_wp2_with fail
            refine (together_calls md gr.2 _).mono ?_
            rw [HT.out]
            rintro e w4 ⟨rfl, hc4⟩
            have hrg4 := HRG.out.chg hc4 (fun f => f) (fun f => f)
            have hlf4 : w4.rangeLeft (L.pl gr.1).hb w1.heap.size = w3.rangeLeft (L.pl gr.1).hb w1.heap.size := by
              obtain ⟨es, clock, seen, h1, -, h3, -⟩ := HRG.out.ex
              exact rangeLeft_chg hc4 (fun f => f) (fun f => f) (heap_lt h1) (heap_lt h3)
            have hrA := HRW3.out.new hc4
            have hcA := HCH3.out.trans hc4
            obtain ⟨oa, oc, rfl, -⟩ := hrA.form
            have hrgB := hrg4.chg (Chg.alloc NoB w4 (.cells #[.int .u64 k] 29)) (fun f => f) (fun f => f)
            have hlfB : (w4.alloc (.cells #[.int .u64 k] 29)).rangeLeft (L.pl gr.1).hb w1.heap.size = w4.rangeLeft (L.pl gr.1).hb w1.heap.size := by
              obtain ⟨es, clock, seen, h1, -, h3, -⟩ := hrg4.ex
              exact rangeLeft_chg (Chg.alloc NoB w4 (.cells #[.int .u64 k] 29)) (fun f => f) (fun f => f) (heap_lt h1) (heap_lt h3)
            have hrB := hrA.new (Chg.alloc NoB w4 (.cells #[.int .u64 k] 29))
            obtain ⟨_, _, hv, hrow⟩ := hrB.form
            simp only [Value.slice.injEq, true_and] at hv
            obtain ⟨rfl, rfl⟩ := hv
            have HROW := hide hrow; have HRB := hide hrB; have HNW := hide (news1 w4 k); have HRGB := hide hrgB; have HCA4 := hide hcA
            have hltB := lt_eq (hlfB.trans hlf4) hlt3
            have HLTB := hide hltB
            clear hrow hrB hrgB hcA hltB hlfB hlf4 hrg4 hrA hc4 kb hlt3 hnv
            go_wp2_with (at_builtin; refine wpList_app_own rfl (.tmp 51) (.tmp 53) 36 rfl 29 iu (.int .u64 0) 1 8 Try.underlying36 HIU.out.1 HIU.out.2.1 HIU.out.2.2.1 HIU.out.2.2.2 rfl (by decide) oa bs.length oc _ rfl HROW.out _ 1 1 [.int .u64 k] rfl (fun h => by cases h) rfl HNW.out (fun u hu => by simp at hu; subst hu; rfl) (by have := HBL.out; unfold maxLen; omega) (by have := HBL.out; omega) (Hid.out ?_))
            refine hide (fun a' c' wz hrz hcz hnz => ?_)
            have hn' : ∀ k', (∃ b, a' = some b ∧ b.block = k') → (∃ b, oa = some b ∧ b.block = k') ∨ (World.heap (w4.alloc (.cells #[.int .u64 k] 29))).size ≤ k' := fun k' hk => by
              obtain ⟨b, e1, e2⟩ := hk
              rw [← e2]
              simpa using hnz b e1
            have hF : ∀ k, (∃ b, oa = some b ∧ b.block = k) → w1.heap.size ≤ k ∧ ρ k = .none := fun k hk => by
              obtain ⟨b, h1, h2⟩ := hk
              subst h1
              have := HRB.out.lt rfl
              rw [← h2]; exact this.2
            have hsz1 : w1.heap.size ≤ (World.heap (w4.alloc (.cells #[.int .u64 k] 29))).size := (HCA4.out.trans (Chg.alloc _ _ _)).size
            have hrZ := HRB.out.app (ys := [k]) (k := 1) (fun k hk => HH.out.fresh (Nat.le_trans HCA.out.size (Nat.le_trans hsz1 hk))) hsz1 rfl hrz hn'
            have hcZ0 : Chg NoB w1 wz := (HCA4.out.trans (Chg.alloc _ _ _)).trans' hcz (fun k hk => .inr (hF k hk).1)
            obtain ⟨hrgZ, hlfZ⟩ := HRGB.out.other HROW.out hcz
            have hltZ := lt_eq hlfZ HLTB.out
            have HRZ := hide hrZ; have HCZ := hide hcZ0; have HRGZ := hide hrgZ; have HLTZ := hide hltZ
            clear hrz hcz hnz hn' hF hsz1 hrZ hcZ0 hrgZ hlfZ hltZ
            try go_frame
            go_wp2_with fail
            go_roundw
            case rel => exact ⟨_, bs ++ [k], HRGZ.out, HCZ.out, by simpa using HRZ.out, HMK.out, HND2.out⟩
            case measure => exact HLTZ.out
          · have HMK := hide (mem_keep (k := k) HMEM.out (by rintro ⟨md', h1, _, h3⟩; rw [HMD.out] at h1; cases h1; rw [ht] at h3; cases h3))
            have HT := hide ht
            clear ht
            go_wp2_with fail
            refine (together_calls md gr.2 _).mono ?_
            rw [HT.out]
            rintro e w4 ⟨rfl, hc4⟩
            have hrg4 := HRG.out.chg hc4 (fun f => f) (fun f => f)
            have hlf4 : w4.rangeLeft (L.pl gr.1).hb w1.heap.size = w3.rangeLeft (L.pl gr.1).hb w1.heap.size := by
              obtain ⟨es, clock, seen, h1, -, h3, -⟩ := HRG.out.ex
              exact rangeLeft_chg hc4 (fun f => f) (fun f => f) (heap_lt h1) (heap_lt h3)
            have HRG4 := hide hrg4; have HLT4 := hide (lt_eq hlf4 hlt3); have HCH4 := hide (HCH3.out.trans hc4); have HRW4 := hide (HRW3.out.new hc4)
            clear hrg4 hlf4 hc4 kb
            go_wp2_with fail
            go_roundw
            case rel => exact ⟨_, bs, HRG4.out, HCH4.out, HRW4.out, HMK.out, HND.out⟩
            case measure => exact HLT4.out
end Go.Proofs.Ytjnbbmchmkiodaa
