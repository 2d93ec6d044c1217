/- reached: all that an owner waits for, in the end. -/
import Derived.Test.YtjnbbmchmkiodaaLkV
import Derived.Laws.EntriesVeiled
namespace Go.Proofs.Ytjnbbmchmkiodaa
open Go.RowKit Go.MapKept

set_option linter.unusedSimpArgs false
set_option linter.unusedVariables false
inductive Reach (m : TM) : Int → Int → Prop where
  | one {x u : Int} : blk m x u → Reach m x u
  | step {x u z : Int} : blk m x u → Reach m u z → Reach m x z
theorem Reach.trans {m : TM} {x u z : Int} (h : Reach m x u) (k : Reach m u z) : Reach m x z := by
  induction h with
  | one h => exact .step h k
  | step h _ ih => exact .step h (ih k)
/-- What a search from x adds to V. -/
structure Dfs (m : TM) (V V' : Int → Bool) (x : Int) : Prop where
  old : ∀ u, V u = true → V' u = true
  nx : ∀ u, blk m x u → V' u = true
  new : ∀ u, V' u = true → V u = false → Reach m x u ∧ ∀ z, blk m u z → V' z = true
/-- .. while some of those that x waits for are gone through. -/
structure DfsP (m : TM) (V V' : Int → Bool) (x : Int) (bs : List Int) : Prop where
  old : ∀ u, V u = true → V' u = true
  nx : ∀ u ∈ bs, V' u = true
  new : ∀ u, V' u = true → V u = false → Reach m x u ∧ ∀ z, blk m u z → V' z = true
theorem DfsP.start (m : TM) (V : Int → Bool) (x : Int) : DfsP m V V x [] := ⟨fun _ h => h, (fun _ h => by cases h), fun u h1 h2 => by rw [h1] at h2; cases h2⟩
theorem DfsP.skip {m : TM} {V V' : Int → Bool} {x u : Int} {bs : List Int} (h : DfsP m V V' x bs) (hu : V' u = true) : DfsP m V V' x (bs ++ [u]) :=
  ⟨h.old, fun z hz => by rcases List.mem_append.1 hz with hz | hz; exact h.nx z hz; simp at hz; subst hz; exact hu, h.new⟩
def addV (V : Int → Bool) (u : Int) : Int → Bool := fun z => decide (z = u) || V z
theorem DfsP.add {m : TM} {V V' V2 : Int → Bool} {x u : Int} {bs : List Int} (h : DfsP m V V' x bs) (hb : blk m x u) (hd : Dfs m (addV V' u) V2 u) : DfsP m V V2 x (bs ++ [u]) := by
  have hV : ∀ z, V' z = true → V2 z = true := fun z hz => hd.old z (by simp [addV, hz])
  have hu : V2 u = true := hd.old u (by simp [addV])
  refine ⟨fun z hz => hV z (h.old z hz), fun z hz => ?_, fun z h1 h2 => ?_⟩
  · rcases List.mem_append.1 hz with hz | hz
    · exact hV z (h.nx z hz)
    · simp at hz; subst hz; exact hu
  · by_cases hz : V' z = true
    · obtain ⟨a, b⟩ := h.new z hz h2
      exact ⟨a, fun y hy => hV y (b y hy)⟩
    · by_cases hzu : z = u
      · subst hzu
        exact ⟨.one hb, hd.nx⟩
      · obtain ⟨a, b⟩ := hd.new z h1 (by simp [addV, hzu, hz])
        exact ⟨.step hb a, b⟩
theorem DfsP.done {m : TM} {V V' : Int → Bool} {x : Int} {bs : List Int} (h : DfsP m V V' x bs) (hb : ∀ u, blk m x u → u ∈ bs) : Dfs m V V' x := ⟨h.old, fun u hu => h.nx u (hb u hu), h.new⟩
theorem Dfs.reach {m : TM} {V' : Int → Bool} {x : Int} (h : Dfs m (fun _ => false) V' x) (u : Int) : V' u = true ↔ Reach m x u := by
  constructor
  · intro hu; exact (h.new u hu rfl).1
  · intro hr
    have key : ∀ {a b : Int}, Reach m a b → (∀ z, blk m a z → V' z = true) → V' b = true := by
      intro a b hr
      induction hr with
      | one hb => intro hn; exact hn _ hb
      | step hb _ ih => intro hn; exact ih (h.new _ (hn _ hb) rfl).2
    exact key hr h.nx
theorem filt_le {p q : Int → Bool} (h : ∀ z, q z = true → p z = true) : ∀ U : List Int, (U.filter q).length ≤ (U.filter p).length
  | [] => Nat.le_refl _
  | y :: r => by
    have ih := filt_le h r
    cases hq : q y with
    | true => rw [List.filter_cons_of_pos hq, List.filter_cons_of_pos (h y hq)]; simpa using ih
    | false =>
      rw [List.filter_cons_of_neg (by simp [hq])]
      cases hp : p y with
      | true => rw [List.filter_cons_of_pos hp]; simp only [List.length_cons]; omega
      | false => rw [List.filter_cons_of_neg (by simp [hp])]; exact ih
theorem filt_lt {p q : Int → Bool} (h : ∀ z, q z = true → p z = true) {u : Int} (hp : p u = true) (hq : q u = false) : ∀ U : List Int, u ∈ U → (U.filter q).length < (U.filter p).length
  | y :: r, hu => by
    by_cases hy : y = u
    · subst hy
      have := filt_le h r
      rw [List.filter_cons_of_neg (by simp [hq]), List.filter_cons_of_pos hp]
      simp only [List.length_cons]; omega
    · have ih := filt_lt h hp hq r (by simpa [Ne.symm hy] using hu)
      cases hqy : q y with
      | true => rw [List.filter_cons_of_pos hqy, List.filter_cons_of_pos (h y hqy)]; simpa using ih
      | false =>
        rw [List.filter_cons_of_neg (by simp [hqy])]
        cases hpy : p y with
        | true => rw [List.filter_cons_of_pos hpy]; simp only [List.length_cons]; omega
        | false => rw [List.filter_cons_of_neg (by simp [hpy])]; exact ih
theorem count_add {U : List Int} {V : Int → Bool} {u : Int} (hu : u ∈ U) (hV : V u = false) : (U.filter (fun z => !addV V u z)).length < (U.filter (fun z => !V z)).length :=
  filt_lt (fun z hz => by
    cases hv : V z with
    | false => rfl
    | true => simp [addV, hv] at hz) (by simp [hV]) (by simp [addV]) U hu
def setU (V : Int → Bool) (i : Int) : Option Value := if V i then some (.agg #[]) else none
theorem cell_ne_map {κ : Type} {w : World} {b : Nat} {d : TypeDesc} {enc : κ → Value} {f : κ → Option Value} (hM : MapAt w b d enc f) {p : Addr} {v : Value} (h : w.cell? p = some v) : p.block ≠ b := fun e => by
  obtain ⟨es, clock, h1, -⟩ := hM.ex
  unfold World.cell? at h
  rw [e, h1] at h
  simp at h
theorem row_ne_map {κ : Type} {w : World} {b : Nat} {d : TypeDesc} {enc : κ → Value} {f : κ → Option Value} (hM : MapAt w b d enc f) {base n c k : Nat} {e : TypeId} {size : Nat} {a : Addr} {xs : List Value} (hr : w.ownsRow base e size (.slice (some a) n c) k xs) : a.block ≠ b := fun he => by
  obtain ⟨es, clock, h1, -⟩ := hM.ex
  rcases hr.2 with ⟨hv, _⟩ | ⟨g, cap, cur, hv, _, hg, _⟩
  · simp at hv
  · simp only [Value.slice.injEq, Option.some.injEq] at hv
    rw [hv.1] at he
    simp only at he
    subst he
    rw [h1] at hg; cases hg
/-- What a search has at hand. -/
structure VisS (w : World) (tb : Nat) (m : TM) (L : TL) (ρ : Nat → Role) (t1 t2 t3 mb : Nat) (V : Int → Bool) : Prop where
  tab : Tab w tb m L ρ
  c1 : w.cell? ⟨t1, 0, none⟩ = some (.pointer (some ⟨tb, 0, none⟩))
  c2 : w.cell? ⟨t2, 0, none⟩ = some (.map (some mb))
  c3 : w.cell? ⟨t3, 0, none⟩ = some (.func (.func 58) #[] #[.pointer (some ⟨t1, 0, none⟩), .pointer (some ⟨t2, 0, none⟩), .pointer (some ⟨t3, 0, none⟩)])
  mp : MapAt w mb (.int .u64) encU (setU V)
  rm : ρ mb = .none
theorem VisS.go {w w' : World} {tb : Nat} {m : TM} {L : TL} {ρ : Nat → Role} {t1 t2 t3 mb : Nat} {V V' : Int → Bool} (h : VisS w tb m L ρ t1 t2 t3 mb V) (hc : Chg (fun k => k = mb) w w') (hM : MapAt w' mb (.int .u64) encU (setU V')) : VisS w' tb m L ρ t1 t2 t3 mb V' :=
  ⟨h.tab.chg hc (fun k hk => by have : k = mb := hk; rw [this]; exact h.rm), (hc.cell (cell_some h.c1).1 (cell_ne_map h.mp h.c1)).trans h.c1, (hc.cell (cell_some h.c2).1 (cell_ne_map h.mp h.c2)).trans h.c2, (hc.cell (cell_some h.c3).1 (cell_ne_map h.mp h.c3)).trans h.c3, hM, h.rm⟩
theorem VisS.new {w w' : World} {tb : Nat} {m : TM} {L : TL} {ρ : Nat → Role} {t1 t2 t3 mb : Nat} {V : Int → Bool} (h : VisS w tb m L ρ t1 t2 t3 mb V) (hc : Chg NoB w w') : VisS w' tb m L ρ t1 t2 t3 mb V :=
  h.go (hc.mono (fun _ f => f.elim)) (h.mp.chg hc (fun f => f))
/-- All places are known, all owners are in a list. -/
structure Known (m : TM) (U : List Int) : Prop where
  pl : ∀ x gr, m.waits x = some gr → ∃ p, m.pl gr.1 = some p ∧ p.queue.length ≤ 3000000000000 ∧ (∀ u, p.held u ≠ none → u ∈ U) ∧ ∀ y ∈ p.queue, y.1 ∈ U
  un : U.length ≤ 3000000000000
theorem Known.blk {m : TM} {U : List Int} (h : Known m U) {x u : Int} (hb : blk m x u) : u ∈ U := by
  obtain ⟨gr, p, h1, h2, h3⟩ := hb
  obtain ⟨p', e1, e2, e3, e4⟩ := h.pl x gr h1
  rw [h2] at e1
  cases e1
  rcases h3 with ⟨md, h4, -, -⟩ | h4
  · exact e3 u (by rw [h4]; simp)
  · have := (List.takeWhile_sublist _).subset h4
    obtain ⟨y, hy, rfl⟩ := List.mem_map.1 this
    exact e4 y hy
theorem Known.pbd {m : TM} {U : List Int} (h : Known m U) (x : Int) : ∀ gr, m.waits x = some gr → ∃ p hl, m.pl gr.1 = some p ∧ PBd p hl := fun gr hg => by
  obtain ⟨p, e1, e2, e3, -⟩ := h.pl x gr hg
  exact ⟨p, U, e1, e3, h.un, e2⟩
def VisR (w : World) (m : TM) (mb : Nat) (V : Int → Bool) (x : Int) (e : Ending) (w' : World) : Prop := e = .returned (.tuple #[]) ∧ ∃ V', MapAt w' mb (.int .u64) encU (setU V') ∧ Dfs m V V' x ∧ Chg (fun k => k = mb) w w'
theorem zeroUnit (w : World) : (zeroValue 86).run Try.prog w = .ok (.agg #[]) w := by kernel_rfl

theorem count_mono {U : List Int} {V V' : Int → Bool} (h : ∀ u, V u = true → V' u = true) : (U.filter (fun z => !V' z)).length ≤ (U.filter (fun z => !V z)).length :=
  filt_le (fun z hz => by
    cases hv : V z with
    | false => rfl
    | true => rw [h z hv] at hz; cases hz) U
set_option maxHeartbeats 2000000 in
set_option maxRecDepth 100000 in
theorem visit_calls {tb : Nat} {m : TM} {L : TL} {ρ : Nat → Role} {t1 t2 t3 mb : Nat} {U : List Int} (hK : Known m U) : ∀ (n : Nat) (w : World) (V : Int → Bool) (x : Int), (U.filter (fun z => !V z)).length = n → VisS w tb m L ρ t1 t2 t3 mb V →
    Calls Try.prog 58 #[.int .u64 x, .pointer (some ⟨t1, 0, none⟩), .pointer (some ⟨t2, 0, none⟩), .pointer (some ⟨t3, 0, none⟩)] w (VisR w m mb V x) := by
  intro n
  induction n using Nat.strongRecOn with
  | ind n ih =>
    intro w V x hn hS
    have IH := hide ih; have HN := hide hn; have HS := hide hS; have HK := hide hK
    have q1 := hS.c1
    clear ih hn hS hK
    go_enter Try.func58, Try.ntmps58
    go_wp2_with fail
    refine (blockers_calls HS.out.tab x (HK.out.pbd x)).mono ?_
    rintro e w1 ⟨v, bs, rfl, hrw, hmem, hbl, hc1⟩
    obtain ⟨ba, bc, rfl, hrow⟩ := hrw.form
    have hS1 := HS.out.new hc1
    have HS1 := hide hS1; have HRW := hide hrw; have HROW := hide hrow; have HMEM := hide hmem; have HC1 := hide hc1
    clear hS1 hrw hrow hmem hc1 q1
    go_wp2_with fail
    go_loopw [13] (fun v wr => ∃ (j : Nat) (V' : Int → Bool), j ≤ bs.length ∧ v = .int .i64 j ∧ VisS wr tb m L ρ t1 t2 t3 mb V' ∧ Chg (fun k => k = mb) w1 wr ∧ DfsP m V V' x (bs.take j)) (fun v _ => bs.length - (intOf v).toNat)
    case atStart => exact ⟨0, V, Nat.zero_le _, rfl, HS1.out, Chg.refl _ _, by simpa using DfsP.start m V x⟩
    case round =>
      obtain ⟨j, V', hj, rfl, hS, hch, hd⟩ := hrel
      have HS2 := hide hS; have HCH := hide hch; have HD := hide hd
      clear hS hch hd
      by_cases hlt : j < bs.length
      · have htk : bs.take (j + 1) = bs.take j ++ [bs[j]] := by rw [List.take_succ_eq_append_getElem hlt]
        obtain ⟨g, rfl, hg, hcx⟩ := row_cells HROW.out (by omega)
        have k1 := hcx j (.int .u64 bs[j]) (by simp [hlt])
        have hblk : blk m x bs[j] := (HMEM.out _).1 (List.getElem_mem hlt)
        generalize bs[j] = u at htk k1 hblk
        have hgm : g ≠ mb := row_ne_map HS1.out.mp HROW.out
        have k2 : wr.cell? ⟨g, j, none⟩ = some (.int .u64 u) := (HCH.out.cell (cell_some k1).1 hgm).trans k1
        have HTK := hide htk; have HBLK := hide hblk
        clear htk hblk hgm hcx k1 hg
        have hj1 : (j : Int) < (bs.length : Int) := by omega
        have hj0 : (0 : Int) ≤ (j : Int) := by omega
        have q2 := HS2.out.c2
        have q3 := HS2.out.c3
        have HMP := hide HS2.out.mp
        by_cases hV : V' u = true
        · have HL : Hid (setU V' u = some (.agg #[])) := hide (by simp [setU, hV])
          have HV := hide hV; clear hV
          go_wp2_with (at_lookup; refine wpList_look_some rfl (.tmp 18) (.tmp 19) 90 rfl 29 86 (.agg #[]) Try.underlying90 Try.underlying29 encU_key zeroUnit mb rfl HMP.out u rfl _ HL.out ?_)
          go_roundw
          case rel => exact ⟨j + 1, V', by omega, by go_num, HS2.out.new (Chg.alloc _ _ _), HCH.out.trans (Chg.alloc _ _ _), by rw [HTK.out]; exact HD.out.skip HV.out⟩
          case measure => simp [intOf]; omega
        · have hVf : V' u = false := by simpa using hV
          have HL : Hid (setU V' u = none) := hide (by simp [setU, hVf])
          have hsa := HS2.out.new (Chg.alloc NoB wr (.cells #[] 86))
          have hca := HCH.out.trans (Chg.alloc (fun k => k = mb) wr (.cells #[] 86))
          have HSA := hide hsa; have HCA := hide hca; have HV := hide hVf
          clear hV hVf hsa hca
          go_upto_region 4 with (at_lookup; refine wpList_look_none rfl (.tmp 18) (.tmp 19) 90 rfl 29 86 (.agg #[]) Try.underlying90 Try.underlying29 encU_key zeroUnit mb rfl HMP.out u rfl HL.out ?_)
          generalize wr.alloc (.cells #[] 86) = wa at HSA HCA ⊢
          have q2 := HSA.out.c2
          have q3 := HSA.out.c3
          have HMA := hide HSA.out.mp
          clear HS2 HCH k2
          go_wp2_with (at_mapUpdate; refine wpList_put rfl (.tmp 25) (.tmp 26) (.tmp 27) 90 rfl 29 86 Try.underlying90 Try.underlying29 encU_inj encU_key mb rfl HMA.out u rfl (.agg #[]) rfl (Hid.out ?_))
          refine hide (fun wb hMb hcb => ?_)
          try go_frame
          have hMb2 : MapAt wb mb (.int .u64) encU (setU (addV V' u)) := hMb.ext (fun i => by
            by_cases hi : i = u <;> simp [setU, addV, hi])
          have hSb := HSA.out.go hcb hMb2
          have hlt2 : (U.filter (fun z => !addV V' u z)).length < n := by
            have h1 := count_add (U := U) (HK.out.blk HBLK.out) HV.out
            have h2 := count_mono (U := U) HD.out.old
            have := HN.out
            omega
          have hrec := IH.out _ hlt2 wb (addV V' u) u rfl hSb
          have HSB := hide hSb; have HREC := hide hrec; have HCB := hide (HCA.out.trans hcb)
          have q3b := hSb.c3
          clear hMb hcb hMb2 hSb hlt2 hrec q2 q3 HMA HSA HCA
          go_wp2_with fail
          refine HREC.out.mono ?_
          rintro e wc ⟨rfl, V2, hM2, hd2, hc2⟩
          have HSC := hide (HSB.out.go hc2 hM2); have HCC := hide (HCB.out.trans hc2); have HD2 := hide (HD.out.add HBLK.out hd2)
          clear hM2 hd2 hc2 q3b HSB HCB HREC
          go_wp2_with fail
          go_roundw
          case rel => exact ⟨j + 1, V2, by omega, by go_num, HSC.out, HCC.out, by rw [HTK.out]; exact HD2.out⟩
          case measure => simp [intOf]; omega
      · obtain rfl : j = bs.length := by omega
        have hj1 : ¬ (bs.length : Int) < (bs.length : Int) := by omega
        have hd := HD.out
        rw [List.take_length] at hd
        have HD2 := hide (hd.done (fun u hu => (HMEM.out u).2 hu))
        clear hd
        go_wp2_with fail
        go_end0
        exact ⟨rfl, V', HS2.out.mp, HD2.out, HC1.out.mono (fun _ f => f.elim) |>.trans HCH.out⟩

def ReachedR (w : World) (m : TM) (x : Int) (e : Ending) (w' : World) : Prop := ∃ (mb : Nat) (V : Int → Bool), e = .returned (.map (some mb)) ∧ w.heap.size ≤ mb ∧ MapAt w' mb (.int .u64) encU (setU V) ∧ (∀ u, V u = true ↔ Reach m x u) ∧ Chg NoB w w'
set_option maxHeartbeats 2000000 in
set_option maxRecDepth 100000 in
theorem reached_calls {w : World} {tb : Nat} {m : TM} {L : TL} {ρ : Nat → Role} {U : List Int} (hK : Known m U) (h : Tab w tb m L ρ) (x : Int) :
    Calls Try.prog 40 #[.pointer (some ⟨tb, 0, none⟩), .int .u64 x] w (ReachedR w m x) := by
  have HK := hide hK; have HH := hide h
  have hmm := @run_makeMap Try.prog
  clear hK h
  go_enter Try.func40, Try.ntmps40
  have hc4 : Chg NoB w ((((w.alloc (.cells #[.pointer (some ⟨tb, 0, none⟩)] 25)).alloc (.map #[] 0)).alloc (.cells #[.map (some (w.heap.size + 1))] 90)).alloc (.cells #[(.func (.func 58) #[] #[.pointer (some ⟨w.heap.size, 0, none⟩), .pointer (some ⟨w.heap.size + 1 + 1, 0, none⟩), .pointer (some ⟨w.heap.size + 1 + 1 + 1, 0, none⟩)])] 117)) := (((Chg.alloc _ _ _).trans (Chg.alloc _ _ _)).trans (Chg.alloc _ _ _)).trans (Chg.alloc _ _ _)
  have hS : VisS ((((w.alloc (.cells #[.pointer (some ⟨tb, 0, none⟩)] 25)).alloc (.map #[] 0)).alloc (.cells #[.map (some (w.heap.size + 1))] 90)).alloc (.cells #[(.func (.func 58) #[] #[.pointer (some ⟨w.heap.size, 0, none⟩), .pointer (some ⟨w.heap.size + 1 + 1, 0, none⟩), .pointer (some ⟨w.heap.size + 1 + 1 + 1, 0, none⟩)])] 117)) tb m L ρ w.heap.size (w.heap.size + 1 + 1) (w.heap.size + 1 + 1 + 1) (w.heap.size + 1) (fun _ => false) := by
    have hm : MapAt ((((w.alloc (.cells #[.pointer (some ⟨tb, 0, none⟩)] 25)).alloc (.map #[] 0)).alloc (.cells #[.map (some (w.heap.size + 1))] 90)).alloc (.cells #[(.func (.func 58) #[] #[.pointer (some ⟨w.heap.size, 0, none⟩), .pointer (some ⟨w.heap.size + 1 + 1, 0, none⟩), .pointer (some ⟨w.heap.size + 1 + 1 + 1, 0, none⟩)])] 117)) (w.heap.size + 1) (.int .u64) encU (fun _ => none) := by
      have h0 := MapAt.made (w.alloc (.cells #[.pointer (some ⟨tb, 0, none⟩)] 25)) (.int .u64) encU
      have := (h0.chg (Chg.alloc NoB ((w.alloc (.cells #[.pointer (some ⟨tb, 0, none⟩)] 25)).alloc (.map #[] 0)) (.cells #[.map (some (w.heap.size + 1))] 90)) (fun f => f)).chg (Chg.alloc NoB (((w.alloc (.cells #[.pointer (some ⟨tb, 0, none⟩)] 25)).alloc (.map #[] 0)).alloc (.cells #[.map (some (w.heap.size + 1))] 90)) (.cells #[(.func (.func 58) #[] #[.pointer (some ⟨w.heap.size, 0, none⟩), .pointer (some ⟨w.heap.size + 1 + 1, 0, none⟩), .pointer (some ⟨w.heap.size + 1 + 1 + 1, 0, none⟩)])] 117)) (fun f => f)
      simpa using this
    refine ⟨HH.out.chg0 hc4, ?_, ?_, ?_, hm.ext (fun i => by simp [setU]), HH.out.fresh (by omega)⟩
    · rw [cell_of_row _ _ _ _ _ _ (alloc_blk (alloc_blk (alloc_blk (heap_alloc_new w _) _) _) _)]; rfl
    · rw [cell_of_row _ _ _ _ _ _ (alloc_blk (heap_alloc_new' ((w.alloc (.cells #[.pointer (some ⟨tb, 0, none⟩)] 25)).alloc (.map #[] 0)) (by simp) _) _)]; rfl
    · rw [cell_of_row _ _ _ _ _ _ (heap_alloc_new' (((w.alloc (.cells #[.pointer (some ⟨tb, 0, none⟩)] 25)).alloc (.map #[] 0)).alloc (.cells #[.map (some (w.heap.size + 1))] 90)) (by simp) _)]; rfl
  have HS := hide hS; have HC4 := hide hc4
  clear hS hc4
  go_wp2_with fail
  generalize ((((w.alloc (.cells #[.pointer (some ⟨tb, 0, none⟩)] 25)).alloc (.map #[] 0)).alloc (.cells #[.map (some (w.heap.size + 1))] 90)).alloc (.cells #[(.func (.func 58) #[] #[.pointer (some ⟨w.heap.size, 0, none⟩), .pointer (some ⟨w.heap.size + 1 + 1, 0, none⟩), .pointer (some ⟨w.heap.size + 1 + 1 + 1, 0, none⟩)])] 117)) = w4 at HS HC4 ⊢
  refine (visit_calls HK.out _ w4 (fun _ => false) x rfl HS.out).mono ?_
  rintro e w5 ⟨rfl, V, hM, hd, hc5⟩
  have HS5 := hide (HS.out.go hc5 hM); have HD := hide hd; have HC5 := hide (HC4.out.trans' hc5 (fun k hk => .inr (by have : k = w.heap.size + 1 := hk; omega)))
  have q2 := (HS.out.go hc5 hM).c2
  clear hM hd hc5
  go_wp2_with fail
  go_ret
  exact ⟨_, V, rfl, by omega, HS5.out.mp, HD.out.reach, HC5.out⟩
end Go.Proofs.Ytjnbbmchmkiodaa
