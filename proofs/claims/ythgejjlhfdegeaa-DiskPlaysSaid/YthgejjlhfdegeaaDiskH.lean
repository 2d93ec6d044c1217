/- The device's methods, walked: Sync. -/
import Derived.Test.YthgejjlhfdegeaaDiskG
import Derived.Test.YthgejjlhfdegeaaRange
namespace Go.Proofs.Ythgejjlhfdegeaa
open Go.RowKit Go.MapKept

set_option maxHeartbeats 400000
section
variable {w : World} {sb : Nat} {m : DM} {L : DL} {F C : Nat → Prop}

/-- The pages while the waiting ones are laid over them: V has come. -/
structure Laid (L : DL) (V : Int → Prop) (ps : List PR) : Prop where
  len : ps.length = L.ps.length
  new : ∀ k : Nat, k < ps.length → V k → ∃ r, lastOf (L.ws.map fun r => (r.page, r)) k = some r ∧ ps[k]? = some ⟨r.v, r.l⟩
  old : ∀ k : Nat, ¬ V k → ps[k]? = L.ps[k]?
  has : ∀ n, V n → ∃ v, L.mp n = some v

theorem now_mem {ws : List WR} {n : Int} {v : Value} (h : nowOf ws n = some v) : ∃ k : Nat, n = k ∧ ∃ r, r ∈ ws ∧ r.page = k ∧ lastOf (ws.map fun r => (r.page, r)) k = some r ∧ v = r.v := by
  unfold nowOf at h
  split at h
  · rename_i h0
    obtain ⟨k, rfl⟩ := Int.eq_ofNat_of_zero_le h0
    simp only [Int.toNat_natCast, Option.map_eq_some_iff] at h
    obtain ⟨r, hr, hv⟩ := h
    refine ⟨k, rfl, r, ?_, ?_, hr, hv.symm⟩
    · obtain ⟨r', hr', he⟩ := List.mem_map.1 (lastOf_mem hr)
      simp only [Prod.mk.injEq] at he
      rw [← he.2]; exact hr'
    · obtain ⟨r', hr', he⟩ := List.mem_map.1 (lastOf_mem hr)
      simp only [Prod.mk.injEq] at he
      rw [← he.2]; exact he.1
  · cases h

theorem Laid.start (L : DL) : Laid L (fun _ => False) L.ps := ⟨rfl, fun _ _ h => h.elim, fun _ _ => rfl, fun _ h => h.elim⟩
theorem Laid.step {V : Int → Prop} {ps : List PR} (h : Laid L V ps) {k : Nat} {r : WR} (hk : k < ps.length) (hr : lastOf (L.ws.map fun r => (r.page, r)) k = some r) (hmp : ∃ v, L.mp k = some v) :
    Laid L (fun x => V x ∨ encI x = encI k) (ps.set k ⟨r.v, r.l⟩) := by
  have hinj : ∀ x : Int, encI x = encI k → x = k := fun x hx => encI_inj _ _ hx
  refine ⟨by rw [List.length_set]; exact h.len, ?_, ?_, ?_⟩
  · intro j hj hv
    rw [List.length_set] at hj
    by_cases hjk : j = k
    · subst hjk
      exact ⟨r, hr, by simp [hj]⟩
    · rcases hv with hv | hv
      · obtain ⟨r', h1, h2⟩ := h.new j hj hv
        exact ⟨r', h1, by rw [List.getElem?_set_ne (fun e => hjk e.symm)]; exact h2⟩
      · exact absurd (by have := hinj _ hv; omega) hjk
  · intro j hj
    have hjk : j ≠ k := fun e => hj (.inr (by rw [e]))
    rw [List.getElem?_set_ne (fun e => hjk e.symm)]
    exact h.old j (fun v => hj (.inl v))
  · rintro n (hv | hv)
    · exact h.has n hv
    · rw [hinj n hv]; exact hmp

/-- All have come: the pages as they were written last. -/
theorem Laid.all {V : Int → Prop} {ps : List PR} (h : Laid L V ps) (M : DiskMem w m L C) (hall : ∀ k v, L.mp k = some v → V k) : m.settled = ps.map PR.l := by
  have hpl : L.ps.length = m.base.length := by rw [M.psl]; simp
  apply List.ext_getElem?
  intro k
  simp only [DM.settled, List.getElem?_map]
  by_cases hk : k < m.base.length
  · rw [List.getElem?_range hk]
    simp only [Option.map_some]
    have hkp : k < ps.length := by rw [h.len]; omega
    have e3 : m.waiting = L.ws.map ((fun r => (r.1, WR.l r.2)) ∘ fun r => (r.page, r)) := M.wsl
    have e2 := lastOf_map WR.l (L.ws.map fun r => (r.page, r)) k
    rw [List.map_map, ← e3] at e2
    cases hlo : lastOf (L.ws.map fun r => (r.page, r)) k with
    | some r =>
      have hmp : L.mp k = some r.v := by rw [M.now]; simp [nowOf, hlo]
      obtain ⟨r', h1, h2⟩ := h.new k hkp (hall k _ hmp)
      rw [hlo] at h1; cases h1
      rw [h2]
      simp [DM.page, e2, hlo]
    | none =>
      have hmp : L.mp k = none := by rw [M.now]; simp [nowOf, hlo]
      have hnv : ¬ V k := fun hv => by obtain ⟨v, hv⟩ := h.has k hv; rw [hmp] at hv; cases hv
      rw [h.old k hnv]
      have hk' : k < L.ps.length := by omega
      simp [DM.page, e2, hlo, M.psl, List.getD, hk']
  · rw [List.getElem?_eq_none (by simpa using hk), List.getElem?_eq_none (by rw [h.len]; omega)]; rfl
theorem Laid.at {V : Int → Prop} {ps : List PR} (h : Laid L V ps) {w2 : World} (hw : ∀ r ∈ L.ws, r.At w2 C) (hp : ∀ r ∈ L.ps, r.At w2 C) : ∀ r ∈ ps, r.At w2 C := by
  intro r hr
  obtain ⟨k, hk, rfl⟩ := List.mem_iff_getElem.1 hr
  by_cases hv : V k
  · obtain ⟨q, h1, h2⟩ := h.new k hk hv
    rw [List.getElem?_eq_getElem hk] at h2
    simp only [Option.some.injEq] at h2
    rw [h2]
    have hq : q ∈ L.ws := by
      obtain ⟨r', hr', he⟩ := List.mem_map.1 (lastOf_mem h1)
      simp only [Prod.mk.injEq] at he
      rw [← he.2]; exact hr'
    exact .inr ⟨q.a, q.c, rfl, (hw q hq).1, (hw q hq).2⟩
  · have h2 := h.old k hv
    rw [List.getElem?_eq_getElem hk] at h2
    exact hp _ (List.mem_of_getElem? h2.symm)

/-- All pages are certain. -/
theorem DiskL.resync {w2 : World} {m' : DM} {ps : List PR} (h : DiskL w sb m L F C) (hc : Chg (fun k => k = sb ∨ k = L.pb ∨ k = L.mb) w w2)
    (hb : w2.heap[sb]? = some (.cells (dcells m' { L with ps := ps, wa := none, wc := 0, ws := [], mp := fun _ => none }) 66 (0, 0))) (hok : m'.Ok)
    (hpg : w2.heap[L.pb]? = some (.cells (ps.map PR.v).toArray 28 (0, 0))) (hps : m'.base = ps.map PR.l) (hpv : ∀ r ∈ ps, r.At w2 C) (hmap : MapAt w2 L.mb (.int .i64) encI (fun _ => none)) (hw : m'.waiting = [])
    (e2 : m'.log = m.log) (e3 : m'.mark = m.mark) (e4 : m'.tail = m.tail) (e5 : m'.torn = m.torn) :
    ∃ F', DiskL w2 sb m' { L with ps := ps, wa := none, wc := 0, ws := [], mp := fun _ => none } F' C ∧ ∀ k, F' k → F k := by
  have hC : ∀ k, C k → ¬ (k = sb ∨ k = L.pb ∨ k = L.mb) := fun k hk e => (h.sep k hk).1 ((h.foot k).2 (by
    rcases e with e | e | e
    · exact .inl e
    · exact .inr (.inl e)
    · exact .inr (.inr (.inl e))))
  have hl : ∀ k, blkOf L.la k → ¬ (k = sb ∨ k = L.pb ∨ k = L.mb) := fun k hk e => by
    rcases e with e | e | e
    · exact h.s_l (e ▸ hk)
    · exact h.p_l (e ▸ hk)
    · exact h.m_l (e ▸ hk)
  have M := h.mem
  have hF : ∀ k, footOf sb { L with ps := ps, wa := none, wc := 0, ws := [], mp := fun _ => none } k → F k := by
    intro k hk
    rcases hk with hf | hf | hf | hf | hf
    · exact (h.foot k).2 (.inl hf)
    · exact (h.foot k).2 (.inr (.inl hf))
    · exact (h.foot k).2 (.inr (.inr (.inl hf)))
    · exact (no_blk _ hf).elim
    · exact (h.foot k).2 (.inr (.inr (.inr (.inr hf))))
  refine ⟨footOf sb { L with ps := ps, wa := none, wc := 0, ws := [], mp := fun _ => none }, ⟨hb, ?_, hok, fun k => Iff.rfl, ?_, h.s_p, h.s_m, no_blk _, h.s_l, h.p_m, no_blk _, h.p_l, no_blk _, h.m_l, ?_⟩, hF⟩
  · exact { pages := hpg, psl := hps, psv := hpv, wait := by rw [hw]; exact World.ownsRow_nil _ _ _ _, wsl := hw, wsv := (fun r hr => by cases hr), map := hmap, now := (fun n => by simp [nowOf, lastOf]),
            log := by rw [e2]; exact ownsRow_chg M.log hc (fun b hb => hl _ ⟨b, hb, rfl⟩), mark := by rw [e3]; exact M.mark.chg hc (fun b hb => hC _ (M.markC b hb)),
            markC := M.markC, tail := by rw [e4]; exact M.tail.chg hc (fun b hb => hC _ (M.tailC b hb)), tailC := M.tailC, torn := by rw [e5]; exact M.torn.chg hc hC }
  · exact fun k hk => ⟨fun hf => (h.sep k hk).1 (hF k hf), Nat.lt_of_lt_of_le (h.sep k hk).2 hc.size⟩
  · exact fun k hk => (no_blk _ hk).elim

theorem sync_calls (h : DiskL w sb m L F C) : Calls Try.prog 23 #[.pointer (some ⟨sb, 0, none⟩)] w (DRes w sb F C m.sync) := by
  have c9 := h.cell 9 (v := .bool m.dead) rfl
  cases hd : m.dead
  · rw [hd] at c9
    have hd' : (!false) = true := rfl
    cases hk : m.count.2
    · have e1 : m.sync = (m.count.1, 9) := by simp [DM.sync, hd, hk]
      rw [e1]; clear e1
      have HK := hide hk; clear hk
      have HD := hide hd; clear hd
      go_enter Try.func23, Try.ntmps23
      go_wp2_with (go_at_call 39; refine (counts_no h HK.out).mono ?_; rintro e w1 ⟨rfl, h1, hc1⟩)
      go_ret
      exact DRes.mk h1 (h.chgF hc1 fun _ h => h)
    · have e1 : m.sync = ({ m.count.1 with base := m.count.1.settled, waiting := [] }, 0) := by simp [DM.sync, hd, hk]
      rw [e1]; clear e1
      have HK := hide hk; clear hk
      have HD := hide hd; clear hd
      go_enter Try.func23, Try.ntmps23
      go_wp2_with (first | (go_at_call 39; refine (counts_ok h HK.out).mono ?_; rintro e w1 ⟨rfl, h1, hc1⟩; have d3 := h1.cell 3 (v := .map (some L.mb)) rfl) | (at_range; refine wpList_rng rfl _ 63 rfl 3 28 Try.underlying63 L.mb rfl h1.mem.map ?_; intro w2 hr2 hc2 hs2))
      go_frame
      go_loopw [3] (fun _ wr => ∃ V ps, Ranges wr L.mb w1.heap.size (.int .i64) encI L.mp V ∧ Laid L V ps ∧ wr.heap[L.pb]? = some (.cells (ps.map PR.v).toArray 28 (0, 0)) ∧ Chg (fun k => k = L.pb ∨ k = w1.heap.size) w2 wr ∧ wr.heap.size = w2.heap.size) (fun _ wr => wr.rangeLeft L.mb w1.heap.size)
      case atStart => exact ⟨_, L.ps, hr2, Laid.start L, hc2.blk h1.mem.pages (fun f => f), Chg.refl _ _, rfl⟩
      case round =>
        obtain ⟨V, ps, hrg, hlaid, hpg, hcw, hsz⟩ := hrel
        have hlt := hrg.ltr
        have hnsb : ¬ (sb = L.pb ∨ sb = w1.heap.size) := fun e => e.elim h1.s_p (fun e => by have := heap_lt h1.blk; omega)
        have hbw := hcw.blk (hc2.blk h1.blk (fun f => f)) hnsb
        have d1 : wr.cell? ⟨sb, 1, none⟩ = some (.slice (some ⟨L.pb, 0, none⟩) m.count.1.base.length m.count.1.base.length) := by rw [cell_of_row wr _ _ _ _ _ hbw]; rfl
        have d2 : wr.cell? ⟨sb, 2, none⟩ = some (.slice L.wa m.count.1.waiting.length L.wc) := by rw [cell_of_row wr _ _ _ _ _ hbw]; rfl
        have d3 : wr.cell? ⟨sb, 3, none⟩ = some (.map (some L.mb)) := by rw [cell_of_row wr _ _ _ _ _ hbw]; rfl
        have f2 : wr.frozen? ⟨sb, 2, none⟩ = false := by simp [World.frozen?, hbw]
        have hM : ∀ w', Chg (fun k => k = sb) wr w' → MapAt w' L.mb (.int .i64) encI L.mp := fun w' hc => hrg.map.chg hc (fun e => h1.s_m e.symm)
        have HM := hide hM; clear hM
        have HBW := hide hbw; clear hbw
        go_wp2_with (at_next; refine wpList_nxt rfl _ rfl L.mb w1.heap.size rfl hrg ?_ ?_)
        · intro hl0 hall
          go_wp2_with (refine wpList_clear_map rfl (.tmp 37) 63 rfl 3 28 Try.underlying63 L.mb rfl (HM.out _ (Chg.cell1 _ _ _ _)) ?_; intro w5 hm5 hc5)
          go_ret
          have hcA : Chg (fun k => k = sb ∨ k = L.pb ∨ k = L.mb) w1 wr := (hc2.mono fun _ f => f.elim).trans' hcw (fun i hi => hi.elim (fun e => .inl (.inr (.inl e))) (fun e => .inr (by omega)))
          have hcB : Chg (fun k => k = sb ∨ k = L.pb ∨ k = L.mb) wr w5 := (Chg.setCell wr (.inl rfl) _).trans (hc5.mono fun _ e => .inr (.inr e))
          have hb5 := hc5.blk (setCell_blk (i := 2) HBW.out (.slice none 0 0)) (fun e => h1.s_m e)
          have hp5 := hc5.blk (setCell_blk_other (b := sb) (i := 2) hpg (fun e => h1.s_p e.symm) (.slice none 0 0)) (fun e => h1.p_m e)
          have hset := hlaid.all h1.mem hall
          have hlen : ps.length = m.count.1.base.length := by rw [hlaid.len, h1.mem.psl]; simp
          have hok : DM.Ok { m.count.1 with base := m.count.1.settled, waiting := [] } := by
            obtain ⟨a1, a2, a3, a4, a5, a6, a7, a8, a9, a10, a11, a12⟩ := h1.ok
            have hsl : m.count.1.settled.length = m.count.1.base.length := by simp [DM.settled]
            refine ⟨by rw [hsl]; exact a1, ?_, (fun r hr => by cases hr), a4, a5, a6, a7, a8, a9, ?_, a11, a12⟩
            · intro b hb
              simp only [DM.settled, List.mem_map, List.mem_range] at hb
              obtain ⟨k, hk, rfl⟩ := hb
              simp only [DM.page]
              cases hlo : lastOf m.count.1.waiting k with
              | some x => exact (a3 _ (lastOf_mem hlo)).2
              | none => simp only [Option.getD_none]; rw [List.getD_eq_getElem?_getD, List.getElem?_eq_getElem hk]; exact a2 _ (List.getElem_mem hk)
            · intro p b hpb; rw [hsl]; exact a10 p b hpb
          have hdc : (dcells m.count.1 L).setIfInBounds 2 (.slice none 0 0) = dcells { m.count.1 with base := m.count.1.settled, waiting := [] } { L with ps := ps, wa := none, wc := 0, ws := [], mp := fun _ => none } := by
            simp [dcells, DM.settled]
          rw [hdc] at hb5
          have hCn : ∀ k, C k → ¬ (k = sb ∨ k = L.pb ∨ k = L.mb) := fun k hk e => (h1.sep k hk).1 ((h1.foot k).2 (by
            rcases e with e | e | e
            · exact .inl e
            · exact .inr (.inl e)
            · exact .inr (.inr (.inl e))))
          have hcAB := hcA.trans hcB
          obtain ⟨F', hD, hF'⟩ := h1.resync (ps := ps) hcAB hb5 hok hp5 hset (hlaid.at (fun r hr => (h1.mem.wsv r hr).chg hcAB hCn) (fun r hr => (h1.mem.psv r hr).chg hcAB hCn)) hm5 rfl rfl rfl rfl rfl
          refine ⟨rfl, F', C, ⟨_, hD⟩, ⟨(h.chgF hc1 fun _ h => h).trans (hcAB.mono ?_), fun k hk => .inl (hF' k hk), fun _ h => .inl h⟩⟩
          intro i e
          refine (h.foot i).2 ?_
          rcases e with e | e | e
          · exact .inl e
          · exact .inr (.inl e)
          · exact .inr (.inr (.inl e))
        · intro k v w3 hfk hnv hrg3 hlt3 hc3 hs3 hen
          rw [h1.mem.now] at hfk
          obtain ⟨j, rfl, r, hrw, hrp, hlo, rfl⟩ := now_mem hfk
          have hj : j < m.count.1.base.length := by
            have := (h1.ok.wait (r.page, r.l) (by rw [h1.mem.wsl]; exact List.mem_map_of_mem hrw)).1
            omega
          have hjp : j < ps.length := by rw [hlaid.len]; rw [h1.mem.psl] at hj; simpa using hj
          have d13 : w3.cell? ⟨sb, 1, none⟩ = some (.slice (some ⟨L.pb, 0, none⟩) m.count.1.base.length m.count.1.base.length) := by
            rw [hc3.cell (p := ⟨sb, 1, none⟩) (heap_lt HBW.out) (fun e => hnsb (.inr e))]; exact d1
          have hpg3 := hc3.blk hpg (fun e => by have := heap_lt h1.mem.pages; omega)
          have e13 : w3.cell? ⟨L.pb, j, none⟩ = some (ps[j]'hjp).v := by rw [cell_of_row w3 _ _ _ _ _ hpg3]; simp [hjp]
          have f13 : w3.frozen? ⟨L.pb, j, none⟩ = false := by simp [World.frozen?, hpg3]
          have HP3 := hide hpg3; clear hpg3
          have HLO := hide hlo; clear hlo
          have HFK := hide hfk; clear hfk hrp
          have hvf : r.v = .slice (some r.a) 512 r.c := rfl
          rw [hvf] at hen
          unfold encI at hen
          clear hvf
          have hj2 : (j : Int) < (m.count.1.base.length : Int) := by omega
          go_wp2_with fail
          go_roundw
          case rel =>
            refine ⟨_, ps.set j ⟨r.v, r.l⟩, hrg3.chg (Chg.cell1 _ _ _ _) (fun e => h1.p_m e.symm) (fun e => by have := heap_lt h1.mem.pages; omega), hlaid.step hjp HLO.out ⟨_, (h1.mem.now _).trans HFK.out⟩, ?_, ?_, ?_⟩
            · have := setCell_blk (i := j) HP3.out (.slice (some r.a) 512 r.c)
              rw [this]
              simp [WR.v, List.map_set]
            · exact hcw.trans ((hc3.mono fun _ e => .inr e).trans (Chg.setCell _ (.inl rfl) _))
            · simp only [World.size_setCell]; omega
          case measure =>
            rw [rangeLeft_chg (Chg.cell1 _ _ _ _) (fun e => h1.p_m e.symm) (fun e => by have := heap_lt h1.mem.pages; omega) hrg3.map.lt hrg3.ltr]
            exact hlt3
  · rw [hd] at c9
    have e1 : m.sync = (m, 9) := by simp [DM.sync, hd]
    rw [e1]; clear e1
    have HD := hide hd; clear hd
    go_enter Try.func23, Try.ntmps23
    go_wp2_with fail
    go_ret
    exact DRes.same h
end
end Go.Proofs.Ythgejjlhfdegeaa
