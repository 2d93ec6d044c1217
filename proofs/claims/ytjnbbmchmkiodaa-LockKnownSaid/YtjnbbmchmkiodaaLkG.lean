/- Ask: the owner does not wait. -/
import Derived.Test.YtjnbbmchmkiodaaLkF
namespace Go.Proofs.Ytjnbbmchmkiodaa
open Go.RowKit Go.MapKept

set_option linter.unusedSimpArgs false
set_option maxHeartbeats 2000000 in
set_option maxRecDepth 100000 in
theorem ask_old {w : World} {tb : Nat} {m1 : TM} {L1 : TL} {ρ1 : Nat → Role} (h : Tab w tb m1 L1 ρ1) (o : Int) (s : ByteArray) (md : Int) (h0 : ¬ o = 0) (e1 : isM md = true) (hg : m1.waits o = none) (p : PlM) (hp : m1.pl s = some p)
    (hend : (p.held o).isSome → p.queue.findIdx? (idleB p) = none) (hq : p.queue.length ≤ 10000000000) :
    Calls Try.prog 17 #[.pointer (some ⟨tb, 0, none⟩), .int .u64 o, .string s, .int .i64 md] w (AskR w tb (askTail m1 o s md p) ρ1) := by
  have c1 : w.cell? ⟨tb, 1, none⟩ = some (.map (some L1.tw)) := by rw [cell_of_row w _ _ _ _ _ h.blk]; rfl
  have c0 : w.cell? ⟨tb, 0, none⟩ = some (.map (some L1.tp)) := by rw [cell_of_row w _ _ _ _ _ h.blk]; rfl
  have htb := heap_lt h.blk
  have c0a : (w.alloc (.cells #[.string ⟨#[]⟩, .int .i64 0] 33)).cell? ⟨tb, 0, none⟩ = some (.map (some L1.tp)) := ((Chg.alloc NoB w _).cell htb (fun f => f)).trans c0
  clear c0 htb
  have hM := h.mw
  have hl : waitsF m1 o = none := by simp [waitsF, hg]
  have hP := h.mp.chg (Chg.alloc NoB w (.cells #[.string ⟨#[]⟩, .int .i64 0] 33)) (fun f => f)
  have hl2 : (placesF m1 L1 s).getD (.pointer none) = .pointer (some ⟨(L1.pl s).pb, 0, none⟩) := by simp [placesF, hp]
  have HM := hide hM; have HL := hide hl; have HP := hide hP; have HL2 := hide hl2; have HPL := hide hp; clear hM hg hl hP hl2 hp
  have e0 : (o == 0) = false := by simp [h0]
  have HEND := hide hend; clear hend
  clear h0
  have hcW : Chg NoB w ((w.alloc (.cells #[.string ⟨#[]⟩, .int .i64 0] 33)).alloc (.cells #[.pointer (some ⟨(L1.pl s).pb, 0, none⟩)] 67)) := (Chg.alloc _ _ _).trans (Chg.alloc _ _ _)
  have HT := hide (h.chg0 hcW)
  have HO : Hid (TOwn w ρ1 ((w.alloc (.cells #[.string ⟨#[]⟩, .int .i64 0] 33)).alloc (.cells #[.pointer (some ⟨(L1.pl s).pb, 0, none⟩)] 67)) ρ1) := hide (TOwn.same hcW)
  have HTC : Hid (World.cell? ((w.alloc (.cells #[.string ⟨#[]⟩, .int .i64 0] 33)).alloc (.cells #[.pointer (some ⟨(L1.pl s).pb, 0, none⟩)] 67)) ⟨w.heap.size + 1, 0, none⟩ = some (.pointer (some ⟨(L1.pl s).pb, 0, none⟩))) := hide (by go_simp)
  have HTN : Hid (ρ1 (w.heap.size + 1) = .none) := hide (h.fresh (by omega))
  have HG := hide ((HT.out.pl s p HPL.out).1)
  clear h hcW
  go_enter Try.func17, Try.ntmps17
  go_wp2_with fail
  refine (isMode_calls md w).mono ?_
  rw [e1]
  rintro e w1 ⟨rfl, rfl⟩
  have p0 : ((w.alloc (.cells #[.string ⟨#[]⟩, .int .i64 0] 33)).alloc (.cells #[.pointer (some ⟨(L1.pl s).pb, 0, none⟩)] 67)).cell? ⟨(L1.pl s).pb, 0, none⟩ = some (.map (some (L1.pl s).hb)) := by rw [cell_of_row ((w.alloc (.cells #[.string ⟨#[]⟩, .int .i64 0] 33)).alloc (.cells #[.pointer (some ⟨(L1.pl s).pb, 0, none⟩)] 67)) _ _ _ _ _ HG.out.blk]; rfl
  have p1 : ((w.alloc (.cells #[.string ⟨#[]⟩, .int .i64 0] 33)).alloc (.cells #[.pointer (some ⟨(L1.pl s).pb, 0, none⟩)] 67)).cell? ⟨(L1.pl s).pb, 1, none⟩ = some (.slice (L1.pl s).qa p.queue.length (L1.pl s).qc) := by rw [cell_of_row ((w.alloc (.cells #[.string ⟨#[]⟩, .int .i64 0] 33)).alloc (.cells #[.pointer (some ⟨(L1.pl s).pb, 0, none⟩)] 67)) _ _ _ _ _ HG.out.blk]; rfl
  cases hho : p.held o with
  | none =>
    have hv : heldF p o = none := by simp [heldF, hho]
    have HHO := hide hv; clear hv
    by_cases hqe : p.queue = []
    · have hln : p.queue.length = 0 := by rw [hqe]; rfl
      rw [hln] at p1
      by_cases hgo : goesP p o md
      · have hr : askTail m1 o s md p = (0, m1.hold s p o md) := by simp [askTail, hho, hqe, hgo]
        have HR := hide hr; have HGO := hide hgo; clear hr hgo hqe hho
        go_wp2_with (first | (at_lookup; refine wpList_look_none rfl (.tmp 26) (.tmp 27) 63 rfl 29 33 (.agg #[.string ⟨#[]⟩, .int .i64 0]) Try.underlying63 Try.underlying29 encU_key zeroGr L1.tw rfl HM.out o rfl HL.out ?_) | (at_lookup; refine wpList_look1 rfl (.tmp 35) (.tmp 36) 62 rfl 9 67 (.pointer none) Try.underlying62 Try.underlying9 encS_key zeroPl L1.tp rfl HP.out s rfl _ HL2.out ?_) | (at_lookup; refine wpList_look_none rfl (.tmp 53) (.tmp 54) 68 rfl 29 3 (.int .i64 0) Try.underlying68 Try.underlying29 encU_key zeroInt (L1.pl s).hb rfl HG.out.held o rfl HHO.out ?_))
        refine (goes_calls HG.out o md true ⟨fun _ => HGO.out, fun _ => rfl⟩).mono ?_
        rintro e w2 ⟨rfl, hc2⟩
        clear p0 p1 hln
        have hT2 := HT.out.chg0 hc2
        have tc2 := (hc2.cell (cell_some HTC.out).1 (fun f => f)).trans HTC.out
        have hg2 := (hT2.pl s p HPL.out).1
        have p1 : w2.cell? ⟨(L1.pl s).pb, 1, none⟩ = some (.slice (L1.pl s).qa p.queue.length (L1.pl s).qc) := by rw [cell_of_row w2 _ _ _ _ _ hg2.blk]; rfl
        have p0 : w2.cell? ⟨(L1.pl s).pb, 0, none⟩ = some (.map (some (L1.pl s).hb)) := by rw [cell_of_row w2 _ _ _ _ _ hg2.blk]; rfl
        have HT2 := hide hT2; have HG2 := hide hg2
        clear hT2 hg2

        go_wp2_with fail
        refine (hold_calls HT2.out s p HPL.out o md).mono ?_
        rintro e w3 ⟨rfl, L3, ρ3, hT3, hO3⟩
        have HT3 := hide hT3; clear hT3
        go_wp2_with fail
        go_ret
        rw [HR.out]
        exact ⟨rfl, L3, ρ3, HT3.out, (HO.out.trans (TOwn.same hc2)).trans hO3⟩

      · have hr : askTail m1 o s md p = (10, m1.wait s p o md) := by simp [askTail, hho, hqe, hgo]
        have hwt : m1.wait s p o md = (m1.setQ s p (p.queue ++ [(o, md)])).addWait o (s, md) := by simp only [TM.wait, PlM.at, hho, insQ_end]
        rw [hwt] at hr
        have HR := hide hr; have HGO := hide hgo; clear hr hgo hqe hho hwt
        go_wp2_with (first | (at_lookup; refine wpList_look_none rfl (.tmp 26) (.tmp 27) 63 rfl 29 33 (.agg #[.string ⟨#[]⟩, .int .i64 0]) Try.underlying63 Try.underlying29 encU_key zeroGr L1.tw rfl HM.out o rfl HL.out ?_) | (at_lookup; refine wpList_look1 rfl (.tmp 35) (.tmp 36) 62 rfl 9 67 (.pointer none) Try.underlying62 Try.underlying9 encS_key zeroPl L1.tp rfl HP.out s rfl _ HL2.out ?_) | (at_lookup; refine wpList_look_none rfl (.tmp 53) (.tmp 54) 68 rfl 29 3 (.int .i64 0) Try.underlying68 Try.underlying29 encU_key zeroInt (L1.pl s).hb rfl HG.out.held o rfl HHO.out ?_))
        refine (goes_calls HG.out o md false ⟨(fun h => by cases h), fun h => absurd h HGO.out⟩).mono ?_
        rintro e w2 ⟨rfl, hc2⟩
        clear p0 p1 hln
        have hT2 := HT.out.chg0 hc2
        have tc2 := (hc2.cell (cell_some HTC.out).1 (fun f => f)).trans HTC.out
        have hg2 := (hT2.pl s p HPL.out).1
        have p1 : w2.cell? ⟨(L1.pl s).pb, 1, none⟩ = some (.slice (L1.pl s).qa p.queue.length (L1.pl s).qc) := by rw [cell_of_row w2 _ _ _ _ _ hg2.blk]; rfl
        have p0 : w2.cell? ⟨(L1.pl s).pb, 0, none⟩ = some (.map (some (L1.pl s).hb)) := by rw [cell_of_row w2 _ _ _ _ _ hg2.blk]; rfl
        have HT2 := hide hT2; have HG2 := hide hg2
        clear hT2 hg2

        have hpb : ∀ b, (L1.pl s).qa = some b → (L1.pl s).pb ≠ b.block := fun b hb e => by
          obtain ⟨_, g2, _, g4⟩ := HT2.out.pl s p HPL.out
          have := g4 b hb; rw [← e, g2] at this; cases this
        have htcb : ∀ b, (L1.pl s).qa = some b → w.heap.size + 1 ≠ b.block := fun b hb e => by
          have := (HT2.out.pl s p HPL.out).2.2.2 b hb; rw [← e, HTN.out] at this; cases this
        have HKEEP : Hid (∀ w', Chg (fun k => ∃ b, (L1.pl s).qa = some b ∧ b.block = k) w2 w' → (fun w' : World => w'.cell? ⟨w.heap.size + 1, 0, none⟩ = some (.pointer (some ⟨(L1.pl s).pb, 0, none⟩)) ∧ w'.cell? ⟨(L1.pl s).pb, 1, none⟩ = some (.slice (L1.pl s).qa p.queue.length (L1.pl s).qc)) w') := hide (fun w' hc => ⟨(hc.cell (cell_some tc2).1 (fun ⟨b, h1, h2⟩ => htcb b h1 h2.symm)).trans tc2, (hc.cell (cell_some p1).1 (fun ⟨b, h1, h2⟩ => hpb b h1 h2.symm)).trans p1⟩)
        have HPB := hide hpb; clear hpb htcb
        have hAO : Chg NoB w2 (w2.alloc (.cells #[.int .u64 o, .int .i64 md] 77)).drew := (Chg.alloc _ _ _).trans (Chg.drew _ _)
        have HINS := hide (ins_calls (w := (w2.alloc (.cells #[.int .u64 o, .int .i64 md] 77)).drew) (HG2.out.queue.chg hAO (fun _ _ f => f)) (show p.queue.length ≤ 5000000000000 by omega) ⟨w2.heap.size, 0, none⟩ 1 o md (by intro j u hu; rcases j with _ | _ | j <;> simp at hu <;> subst hu <;> (simp only [Addr.add]; go_simp)))
        clear hAO
        go_wp2_with fail
        refine AnyM.region (S := fun w' : World => w'.cell? ⟨w.heap.size + 1, 0, none⟩ = some (.pointer (some ⟨(L1.pl s).pb, 0, none⟩)) ∧ w'.cell? ⟨(L1.pl s).pb, 1, none⟩ = some (.slice (L1.pl s).qa p.queue.length (L1.pl s).qc)) (late := fun i => i == 13) (by kernel_rfl) ?_
        have hHeld : (fun w' : World => w'.cell? ⟨w.heap.size + 1, 0, none⟩ = some (.pointer (some ⟨(L1.pl s).pb, 0, none⟩)) ∧ w'.cell? ⟨(L1.pl s).pb, 1, none⟩ = some (.slice (L1.pl s).qa p.queue.length (L1.pl s).qc)) _ := HKEEP.out _ (Chg.drew _ _)
        refine AnyM.take (i := 0) (v := ?vb0) rfl (by kernel_rfl) (by kernel_rfl) rfl (by kernel_rfl) (by kernel_rfl) (fun _ _ _ h => h) (Or.inl ⟨by rfl, ?yb0⟩) hHeld ?rb0
        case yb0 => (intro w hSw; (try dsimp only at hSw); obtain ⟨q1, q2⟩ := hSw; go_simp; try with_reducible rfl)
        try simp only [Act.put, List.setIfInBounds_toArray, List.set_cons_zero, List.set_cons_succ, List.getElem_cons_zero, List.getElem_cons_succ, List.getElem_toArray]
        refine AnyM.take (i := 1) (v := ?vb1) rfl (by kernel_rfl) (by kernel_rfl) rfl (by kernel_rfl) (by kernel_rfl) (fun _ _ _ h => h) (Or.inl ⟨by rfl, ?yb1⟩) hHeld ?rb1
        case yb1 => (intro w hSw; (try dsimp only at hSw); obtain ⟨q1, q2⟩ := hSw; go_simp; try with_reducible rfl)
        try simp only [Act.put, List.setIfInBounds_toArray, List.set_cons_zero, List.set_cons_succ, List.getElem_cons_zero, List.getElem_cons_succ, List.getElem_toArray]
        refine AnyM.take (i := 2) (v := ?vb2) rfl (by kernel_rfl) (by kernel_rfl) rfl (by kernel_rfl) (by kernel_rfl) (fun _ _ _ h => h) (Or.inl ⟨by rfl, ?yb2⟩) hHeld ?rb2
        case yb2 => (intro w hSw; (try dsimp only at hSw); obtain ⟨q1, q2⟩ := hSw; go_simp; try with_reducible rfl)
        try simp only [Act.put, List.setIfInBounds_toArray, List.set_cons_zero, List.set_cons_succ, List.getElem_cons_zero, List.getElem_cons_succ, List.getElem_toArray]
        refine AnyM.take (i := 3) (v := ?vb3) rfl (by kernel_rfl) (by kernel_rfl) rfl (by kernel_rfl) (by kernel_rfl) (fun _ _ _ h => h) (Or.inl ⟨by rfl, ?yb3⟩) hHeld ?rb3
        case yb3 => (intro w hSw; (try dsimp only at hSw); obtain ⟨q1, q2⟩ := hSw; go_simp; try with_reducible rfl)
        try simp only [Act.put, List.setIfInBounds_toArray, List.set_cons_zero, List.set_cons_succ, List.getElem_cons_zero, List.getElem_cons_succ, List.getElem_toArray]
        refine AnyM.take (i := 4) (v := ?vb4) rfl (by kernel_rfl) (by kernel_rfl) rfl (by kernel_rfl) (by kernel_rfl) (fun _ _ _ h => h) (Or.inl ⟨by rfl, ?yb4⟩) hHeld ?rb4
        case yb4 => (intro w hSw; (try dsimp only at hSw); obtain ⟨q1, q2⟩ := hSw; go_simp; try with_reducible rfl)
        try simp only [Act.put, List.setIfInBounds_toArray, List.set_cons_zero, List.set_cons_succ, List.getElem_cons_zero, List.getElem_cons_succ, List.getElem_toArray]
        refine AnyM.take (i := 5) (v := ?vb5) rfl (by kernel_rfl) (by kernel_rfl) rfl (by kernel_rfl) (by kernel_rfl) (fun _ _ _ h => h) (Or.inl ⟨by rfl, ?yb5⟩) hHeld ?rb5
        case yb5 => (intro w hSw; (try dsimp only at hSw); obtain ⟨q1, q2⟩ := hSw; go_simp; try with_reducible rfl)
        try simp only [Act.put, List.setIfInBounds_toArray, List.set_cons_zero, List.set_cons_succ, List.getElem_cons_zero, List.getElem_cons_succ, List.getElem_toArray]
        refine AnyM.take (i := 6) (v := ?vb6) rfl (by kernel_rfl) (by kernel_rfl) rfl (by kernel_rfl) (by kernel_rfl) (fun _ _ _ h => h) (Or.inl ⟨by rfl, ?yb6⟩) hHeld ?rb6
        case yb6 => (intro w hSw; (try dsimp only at hSw); obtain ⟨q1, q2⟩ := hSw; go_simp; try with_reducible rfl)
        try simp only [Act.put, List.setIfInBounds_toArray, List.set_cons_zero, List.set_cons_succ, List.getElem_cons_zero, List.getElem_cons_succ, List.getElem_toArray]
        refine AnyM.take (i := 7) (v := ?vb7) rfl (by kernel_rfl) (by kernel_rfl) rfl (by kernel_rfl) (by kernel_rfl) (fun _ _ _ h => h) (Or.inl ⟨by rfl, ?yb7⟩) hHeld ?rb7
        case yb7 => (intro w hSw; (try dsimp only at hSw); obtain ⟨q1, q2⟩ := hSw; go_simp; try with_reducible rfl)
        try simp only [Act.put, List.setIfInBounds_toArray, List.set_cons_zero, List.set_cons_succ, List.getElem_cons_zero, List.getElem_cons_succ, List.getElem_toArray]
        refine AnyM.take (i := 8) (v := ?vb8) rfl (by kernel_rfl) (by kernel_rfl) rfl (by kernel_rfl) (by kernel_rfl) (fun _ _ _ h => h) (Or.inl ⟨by rfl, ?yb8⟩) hHeld ?rb8
        case yb8 => (intro w hSw; (try dsimp only at hSw); obtain ⟨q1, q2⟩ := hSw; go_simp; try with_reducible rfl)
        try simp only [Act.put, List.setIfInBounds_toArray, List.set_cons_zero, List.set_cons_succ, List.getElem_cons_zero, List.getElem_cons_succ, List.getElem_toArray]
        refine AnyM.step (i := 9) (by kernel_rfl) rfl rfl (fun K hK => ?_)
        go_simp
        clear hHeld
        refine hK.out _ _ (by first | exact HKEEP.out _ ((Chg.alloc _ _ _).trans (Chg.drew _ _)) | exact HKEEP.out _ HCA.out) (fun hHeld => ?_)
        clear hK K
        try simp only [Act.put, List.setIfInBounds_toArray, List.set_cons_zero, List.set_cons_succ, List.getElem_cons_zero, List.getElem_cons_succ, List.getElem_toArray]
        refine AnyM.step (i := 10) (by kernel_rfl) rfl rfl (fun K hK => ?_)
        go_simp
        refine HINS.out.mono ?_
        rintro e w3 ⟨a3, c3, rfl, hq3, hc3, hb3⟩
        have hcA : Chg (fun k => ∃ b, (L1.pl s).qa = some b ∧ b.block = k) w2 w3 := ((Chg.alloc _ w2 _).trans (Chg.drew _ _)).trans hc3
        have HQ3 := hide hq3; clear hq3
        have HCA := hide hcA; clear hcA hc3
        have HB3 : Hid (∀ b, a3 = some b → ρ1 b.block = .queue s ∨ w2.heap.size ≤ b.block) := hide (fun b hb => (hb3 b hb).elim (fun ⟨b0, h1, h2⟩ => .inl (by rw [← h2]; exact (HT2.out.pl s p HPL.out).2.2.2 b0 h1)) (fun h => .inr (by simp at h; omega)))
        clear hb3
        go_simp
        clear hHeld
        refine hK.out _ _ (by first | exact HKEEP.out _ ((Chg.alloc _ _ _).trans (Chg.drew _ _)) | exact HKEEP.out _ HCA.out) (fun hHeld => ?_)
        clear hK K
        try simp only [Act.put, List.setIfInBounds_toArray, List.set_cons_zero, List.set_cons_succ, List.getElem_cons_zero, List.getElem_cons_succ, List.getElem_toArray]
        refine AnyM.step (i := 11) (by kernel_rfl) rfl rfl (fun K hK => ?_)
        go_simp
        clear hHeld
        refine hK.out _ _ (by first | exact HKEEP.out _ ((Chg.alloc _ _ _).trans (Chg.drew _ _)) | exact HKEEP.out _ HCA.out) (fun hHeld => ?_)
        clear hK K
        try simp only [Act.put, List.setIfInBounds_toArray, List.set_cons_zero, List.set_cons_succ, List.getElem_cons_zero, List.getElem_cons_succ, List.getElem_toArray]
        refine AnyM.step (i := 12) (by kernel_rfl) rfl rfl (fun K hK => ?_)
        go_simp
        clear hHeld
        refine hK.out _ _ (by first | exact HKEEP.out _ ((Chg.alloc _ _ _).trans (Chg.drew _ _)) | exact HKEEP.out _ HCA.out) (fun hHeld => ?_)
        clear hK K
        try simp only [Act.put, List.setIfInBounds_toArray, List.set_cons_zero, List.set_cons_succ, List.getElem_cons_zero, List.getElem_cons_succ, List.getElem_toArray]
        have hblk3 : w3.heap[(L1.pl s).pb]? = some (.cells #[.map (some (L1.pl s).hb), .slice (L1.pl s).qa p.queue.length (L1.pl s).qc] 71 (0, 0)) := HCA.out.blk HG2.out.blk (fun ⟨b, h1, h2⟩ => HPB.out b h1 h2.symm)
        have d1 : w3.cell? ⟨(L1.pl s).pb, 1, none⟩ = some (.slice (L1.pl s).qa p.queue.length (L1.pl s).qc) := by rw [cell_of_row w3 _ _ _ _ _ hblk3]; rfl
        have f1 : w3.frozen? ⟨(L1.pl s).pb, 1, none⟩ = false := by simp [World.frozen?, hblk3]
        have HBLK3 := hide hblk3; clear hblk3
        refine AnyM.last (i := 13) (by kernel_rfl) rfl rfl (fun K hK => ?_)
        go_simp
        refine hK.out _ _ ?_
        clear hK K
        try simp only [Act.put, List.setIfInBounds_toArray, List.set_cons_zero, List.set_cons_succ, List.getElem_cons_zero, List.getElem_cons_succ, List.getElem_toArray]
        refine AnyM.done (by kernel_rfl) ?_ _
        clear d1 f1
        have hblk5 : (w3.setCell ⟨(L1.pl s).pb, 1, none⟩ (.slice a3 (p.queue.length + 1) c3)).heap[(L1.pl s).pb]? = some (.cells #[.map (some (L1.pl s).hb), .slice a3 (p.queue.length + 1) c3] 71 (0, 0)) := setCell_blk (i := 1) HBLK3.out (.slice a3 (p.queue.length + 1) c3)
        have hcB : Chg (fun k => ρ1 k = .place s ∨ ρ1 k = .queue s) w2 (w3.setCell ⟨(L1.pl s).pb, 1, none⟩ (.slice a3 (p.queue.length + 1) c3)) := (HCA.out.mono (fun k ⟨b, h1, h2⟩ => .inr (by rw [← h2]; exact (HT2.out.pl s p HPL.out).2.2.2 b h1))).trans ((Chg.cell1 w3 (L1.pl s).pb 1 _).mono (fun k hk => .inl (by have : k = (L1.pl s).pb := hk; rw [this]; exact (HT2.out.pl s p HPL.out).2.1)))
        have hQ5 : QAt (w3.setCell ⟨(L1.pl s).pb, 1, none⟩ (.slice a3 (p.queue.length + 1) c3)) a3 (p.queue.length + 1) c3 (p.queue ++ [(o, md)]) := HQ3.out.chg (Chg.cell1 w3 (L1.pl s).pb 1 _) (fun b hb e => by
          have e : b.block = (L1.pl s).pb := e
          rcases HB3.out b hb with h | h
          · rw [e, (HT2.out.pl s p HPL.out).2.1] at h; cases h
          · have := heap_lt HG2.out.blk; omega)
        have hT5 := HT2.out.setQ HPL.out hcB hblk5 hQ5 HB3.out
        have hO5 := TOwn.setQ hcB HB3.out
        clear hblk5 hcB hQ5
        generalize w3.setCell ⟨(L1.pl s).pb, 1, none⟩ (.slice a3 (p.queue.length + 1) c3) = w5 at hT5 hO5 ⊢
        have c5 : w5.cell? ⟨tb, 1, none⟩ = some (.map (some L1.tw)) := by rw [cell_of_row w5 _ _ _ _ _ hT5.blk]; rfl
        have hM5 := hT5.mw
        have HT5 := hide hT5; have HM5 := hide hM5; clear hT5 hM5
        go_wp2_with (at_mapUpdate; refine wpList_put rfl (.tmp 121) (.tmp 122) (.tmp 125) 63 rfl 29 33 Try.underlying63 Try.underlying29 encU_inj encU_key L1.tw rfl HM5.out o rfl (.agg #[.string s, .int .i64 md]) rfl (Hid.out ?_))
        refine hide (fun w6 hM6 hc6 => ?_)
        try go_frame
        have hT6 := HT5.out.addWait (g := (s, md)) hc6 hM6
        have HT6 := hide hT6
        have hO6 : TOwn w5 (roleQ ρ1 a3 s) w6 (roleQ ρ1 a3 s) := ⟨hc6.mono (fun k hk => by have e : k = L1.tw := hk; have h2 : roleQ ρ1 a3 s L1.tw = .mw := HT5.out.rw; rw [e, h2]; simp), fun _ h => .inl h⟩
        clear hT6 hM6 hc6
        go_wp2_with fail
        go_ret
        rw [HR.out]
        exact ⟨rfl, _, _, HT6.out, ((HO.out.trans (TOwn.same hc2)).trans hO5).trans hO6⟩

    · have hr : askTail m1 o s md p = (10, m1.wait s p o md) := by simp [askTail, hho, hqe]
      have hwt : m1.wait s p o md = (m1.setQ s p (p.queue ++ [(o, md)])).addWait o (s, md) := by simp only [TM.wait, PlM.at, hho, insQ_end]
      rw [hwt] at hr
      have hqz : ((p.queue.length : Int) == 0) = false := by
        have : p.queue.length ≠ 0 := fun e => hqe (List.eq_nil_of_length_eq_zero e)
        simp; omega
      have HR := hide hr; clear hr hqe hho hwt
      have tc0 := HTC.out
      go_wp2_with (first | (at_lookup; refine wpList_look_none rfl (.tmp 26) (.tmp 27) 63 rfl 29 33 (.agg #[.string ⟨#[]⟩, .int .i64 0]) Try.underlying63 Try.underlying29 encU_key zeroGr L1.tw rfl HM.out o rfl HL.out ?_) | (at_lookup; refine wpList_look1 rfl (.tmp 35) (.tmp 36) 62 rfl 9 67 (.pointer none) Try.underlying62 Try.underlying9 encS_key zeroPl L1.tp rfl HP.out s rfl _ HL2.out ?_) | (at_lookup; refine wpList_look_none rfl (.tmp 53) (.tmp 54) 68 rfl 29 3 (.int .i64 0) Try.underlying68 Try.underlying29 encU_key zeroInt (L1.pl s).hb rfl HG.out.held o rfl HHO.out ?_; generalize ((w.alloc (.cells #[.string ⟨#[]⟩, .int .i64 0] 33)).alloc (.cells #[.pointer (some ⟨(L1.pl s).pb, 0, none⟩)] 67)) = w2 at HT HO HTC HG p0 p1 tc0 ⊢))
      clear p0 p1 tc0
      have hT2 := HT.out.chg0 (Chg.refl NoB w2)
      have tc2 := ((Chg.refl NoB w2).cell (cell_some HTC.out).1 (fun f => f)).trans HTC.out
      have hg2 := (hT2.pl s p HPL.out).1
      have p1 : w2.cell? ⟨(L1.pl s).pb, 1, none⟩ = some (.slice (L1.pl s).qa p.queue.length (L1.pl s).qc) := by rw [cell_of_row w2 _ _ _ _ _ hg2.blk]; rfl
      have p0 : w2.cell? ⟨(L1.pl s).pb, 0, none⟩ = some (.map (some (L1.pl s).hb)) := by rw [cell_of_row w2 _ _ _ _ _ hg2.blk]; rfl
      have HT2 := hide hT2; have HG2 := hide hg2
      clear hT2 hg2

      have hpb : ∀ b, (L1.pl s).qa = some b → (L1.pl s).pb ≠ b.block := fun b hb e => by
        obtain ⟨_, g2, _, g4⟩ := HT2.out.pl s p HPL.out
        have := g4 b hb; rw [← e, g2] at this; cases this
      have htcb : ∀ b, (L1.pl s).qa = some b → w.heap.size + 1 ≠ b.block := fun b hb e => by
        have := (HT2.out.pl s p HPL.out).2.2.2 b hb; rw [← e, HTN.out] at this; cases this
      have HKEEP : Hid (∀ w', Chg (fun k => ∃ b, (L1.pl s).qa = some b ∧ b.block = k) w2 w' → (fun w' : World => w'.cell? ⟨w.heap.size + 1, 0, none⟩ = some (.pointer (some ⟨(L1.pl s).pb, 0, none⟩)) ∧ w'.cell? ⟨(L1.pl s).pb, 1, none⟩ = some (.slice (L1.pl s).qa p.queue.length (L1.pl s).qc)) w') := hide (fun w' hc => ⟨(hc.cell (cell_some tc2).1 (fun ⟨b, h1, h2⟩ => htcb b h1 h2.symm)).trans tc2, (hc.cell (cell_some p1).1 (fun ⟨b, h1, h2⟩ => hpb b h1 h2.symm)).trans p1⟩)
      have HPB := hide hpb; clear hpb htcb
      have hAO : Chg NoB w2 (w2.alloc (.cells #[.int .u64 o, .int .i64 md] 77)).drew := (Chg.alloc _ _ _).trans (Chg.drew _ _)
      have HINS := hide (ins_calls (w := (w2.alloc (.cells #[.int .u64 o, .int .i64 md] 77)).drew) (HG2.out.queue.chg hAO (fun _ _ f => f)) (show p.queue.length ≤ 5000000000000 by omega) ⟨w2.heap.size, 0, none⟩ 1 o md (by intro j u hu; rcases j with _ | _ | j <;> simp at hu <;> subst hu <;> (simp only [Addr.add]; go_simp)))
      clear hAO

      refine AnyM.region (S := fun w' : World => w'.cell? ⟨w.heap.size + 1, 0, none⟩ = some (.pointer (some ⟨(L1.pl s).pb, 0, none⟩)) ∧ w'.cell? ⟨(L1.pl s).pb, 1, none⟩ = some (.slice (L1.pl s).qa p.queue.length (L1.pl s).qc)) (late := fun i => i == 13) (by kernel_rfl) ?_
      have hHeld : (fun w' : World => w'.cell? ⟨w.heap.size + 1, 0, none⟩ = some (.pointer (some ⟨(L1.pl s).pb, 0, none⟩)) ∧ w'.cell? ⟨(L1.pl s).pb, 1, none⟩ = some (.slice (L1.pl s).qa p.queue.length (L1.pl s).qc)) _ := HKEEP.out _ (Chg.drew _ _)
      refine AnyM.take (i := 0) (v := ?vc0) rfl (by kernel_rfl) (by kernel_rfl) rfl (by kernel_rfl) (by kernel_rfl) (fun _ _ _ h => h) (Or.inl ⟨by rfl, ?yc0⟩) hHeld ?rc0
      case yc0 => (intro w hSw; (try dsimp only at hSw); obtain ⟨q1, q2⟩ := hSw; go_simp; try with_reducible rfl)
      try simp only [Act.put, List.setIfInBounds_toArray, List.set_cons_zero, List.set_cons_succ, List.getElem_cons_zero, List.getElem_cons_succ, List.getElem_toArray]
      refine AnyM.take (i := 1) (v := ?vc1) rfl (by kernel_rfl) (by kernel_rfl) rfl (by kernel_rfl) (by kernel_rfl) (fun _ _ _ h => h) (Or.inl ⟨by rfl, ?yc1⟩) hHeld ?rc1
      case yc1 => (intro w hSw; (try dsimp only at hSw); obtain ⟨q1, q2⟩ := hSw; go_simp; try with_reducible rfl)
      try simp only [Act.put, List.setIfInBounds_toArray, List.set_cons_zero, List.set_cons_succ, List.getElem_cons_zero, List.getElem_cons_succ, List.getElem_toArray]
      refine AnyM.take (i := 2) (v := ?vc2) rfl (by kernel_rfl) (by kernel_rfl) rfl (by kernel_rfl) (by kernel_rfl) (fun _ _ _ h => h) (Or.inl ⟨by rfl, ?yc2⟩) hHeld ?rc2
      case yc2 => (intro w hSw; (try dsimp only at hSw); obtain ⟨q1, q2⟩ := hSw; go_simp; try with_reducible rfl)
      try simp only [Act.put, List.setIfInBounds_toArray, List.set_cons_zero, List.set_cons_succ, List.getElem_cons_zero, List.getElem_cons_succ, List.getElem_toArray]
      refine AnyM.take (i := 3) (v := ?vc3) rfl (by kernel_rfl) (by kernel_rfl) rfl (by kernel_rfl) (by kernel_rfl) (fun _ _ _ h => h) (Or.inl ⟨by rfl, ?yc3⟩) hHeld ?rc3
      case yc3 => (intro w hSw; (try dsimp only at hSw); obtain ⟨q1, q2⟩ := hSw; go_simp; try with_reducible rfl)
      try simp only [Act.put, List.setIfInBounds_toArray, List.set_cons_zero, List.set_cons_succ, List.getElem_cons_zero, List.getElem_cons_succ, List.getElem_toArray]
      refine AnyM.take (i := 4) (v := ?vc4) rfl (by kernel_rfl) (by kernel_rfl) rfl (by kernel_rfl) (by kernel_rfl) (fun _ _ _ h => h) (Or.inl ⟨by rfl, ?yc4⟩) hHeld ?rc4
      case yc4 => (intro w hSw; (try dsimp only at hSw); obtain ⟨q1, q2⟩ := hSw; go_simp; try with_reducible rfl)
      try simp only [Act.put, List.setIfInBounds_toArray, List.set_cons_zero, List.set_cons_succ, List.getElem_cons_zero, List.getElem_cons_succ, List.getElem_toArray]
      refine AnyM.take (i := 5) (v := ?vc5) rfl (by kernel_rfl) (by kernel_rfl) rfl (by kernel_rfl) (by kernel_rfl) (fun _ _ _ h => h) (Or.inl ⟨by rfl, ?yc5⟩) hHeld ?rc5
      case yc5 => (intro w hSw; (try dsimp only at hSw); obtain ⟨q1, q2⟩ := hSw; go_simp; try with_reducible rfl)
      try simp only [Act.put, List.setIfInBounds_toArray, List.set_cons_zero, List.set_cons_succ, List.getElem_cons_zero, List.getElem_cons_succ, List.getElem_toArray]
      refine AnyM.take (i := 6) (v := ?vc6) rfl (by kernel_rfl) (by kernel_rfl) rfl (by kernel_rfl) (by kernel_rfl) (fun _ _ _ h => h) (Or.inl ⟨by rfl, ?yc6⟩) hHeld ?rc6
      case yc6 => (intro w hSw; (try dsimp only at hSw); obtain ⟨q1, q2⟩ := hSw; go_simp; try with_reducible rfl)
      try simp only [Act.put, List.setIfInBounds_toArray, List.set_cons_zero, List.set_cons_succ, List.getElem_cons_zero, List.getElem_cons_succ, List.getElem_toArray]
      refine AnyM.take (i := 7) (v := ?vc7) rfl (by kernel_rfl) (by kernel_rfl) rfl (by kernel_rfl) (by kernel_rfl) (fun _ _ _ h => h) (Or.inl ⟨by rfl, ?yc7⟩) hHeld ?rc7
      case yc7 => (intro w hSw; (try dsimp only at hSw); obtain ⟨q1, q2⟩ := hSw; go_simp; try with_reducible rfl)
      try simp only [Act.put, List.setIfInBounds_toArray, List.set_cons_zero, List.set_cons_succ, List.getElem_cons_zero, List.getElem_cons_succ, List.getElem_toArray]
      refine AnyM.take (i := 8) (v := ?vc8) rfl (by kernel_rfl) (by kernel_rfl) rfl (by kernel_rfl) (by kernel_rfl) (fun _ _ _ h => h) (Or.inl ⟨by rfl, ?yc8⟩) hHeld ?rc8
      case yc8 => (intro w hSw; (try dsimp only at hSw); obtain ⟨q1, q2⟩ := hSw; go_simp; try with_reducible rfl)
      try simp only [Act.put, List.setIfInBounds_toArray, List.set_cons_zero, List.set_cons_succ, List.getElem_cons_zero, List.getElem_cons_succ, List.getElem_toArray]
      refine AnyM.step (i := 9) (by kernel_rfl) rfl rfl (fun K hK => ?_)
      go_simp
      clear hHeld
      refine hK.out _ _ (by first | exact HKEEP.out _ ((Chg.alloc _ _ _).trans (Chg.drew _ _)) | exact HKEEP.out _ HCA.out) (fun hHeld => ?_)
      clear hK K
      try simp only [Act.put, List.setIfInBounds_toArray, List.set_cons_zero, List.set_cons_succ, List.getElem_cons_zero, List.getElem_cons_succ, List.getElem_toArray]
      refine AnyM.step (i := 10) (by kernel_rfl) rfl rfl (fun K hK => ?_)
      go_simp
      refine HINS.out.mono ?_
      rintro e w3 ⟨a3, c3, rfl, hq3, hc3, hb3⟩
      have hcA : Chg (fun k => ∃ b, (L1.pl s).qa = some b ∧ b.block = k) w2 w3 := ((Chg.alloc _ w2 _).trans (Chg.drew _ _)).trans hc3
      have HQ3 := hide hq3; clear hq3
      have HCA := hide hcA; clear hcA hc3
      have HB3 : Hid (∀ b, a3 = some b → ρ1 b.block = .queue s ∨ w2.heap.size ≤ b.block) := hide (fun b hb => (hb3 b hb).elim (fun ⟨b0, h1, h2⟩ => .inl (by rw [← h2]; exact (HT2.out.pl s p HPL.out).2.2.2 b0 h1)) (fun h => .inr (by simp at h; omega)))
      clear hb3
      go_simp
      clear hHeld
      refine hK.out _ _ (by first | exact HKEEP.out _ ((Chg.alloc _ _ _).trans (Chg.drew _ _)) | exact HKEEP.out _ HCA.out) (fun hHeld => ?_)
      clear hK K
      try simp only [Act.put, List.setIfInBounds_toArray, List.set_cons_zero, List.set_cons_succ, List.getElem_cons_zero, List.getElem_cons_succ, List.getElem_toArray]
      refine AnyM.step (i := 11) (by kernel_rfl) rfl rfl (fun K hK => ?_)
      go_simp
      clear hHeld
      refine hK.out _ _ (by first | exact HKEEP.out _ ((Chg.alloc _ _ _).trans (Chg.drew _ _)) | exact HKEEP.out _ HCA.out) (fun hHeld => ?_)
      clear hK K
      try simp only [Act.put, List.setIfInBounds_toArray, List.set_cons_zero, List.set_cons_succ, List.getElem_cons_zero, List.getElem_cons_succ, List.getElem_toArray]
      refine AnyM.step (i := 12) (by kernel_rfl) rfl rfl (fun K hK => ?_)
      go_simp
      clear hHeld
      refine hK.out _ _ (by first | exact HKEEP.out _ ((Chg.alloc _ _ _).trans (Chg.drew _ _)) | exact HKEEP.out _ HCA.out) (fun hHeld => ?_)
      clear hK K
      try simp only [Act.put, List.setIfInBounds_toArray, List.set_cons_zero, List.set_cons_succ, List.getElem_cons_zero, List.getElem_cons_succ, List.getElem_toArray]
      have hblk3 : w3.heap[(L1.pl s).pb]? = some (.cells #[.map (some (L1.pl s).hb), .slice (L1.pl s).qa p.queue.length (L1.pl s).qc] 71 (0, 0)) := HCA.out.blk HG2.out.blk (fun ⟨b, h1, h2⟩ => HPB.out b h1 h2.symm)
      have d1 : w3.cell? ⟨(L1.pl s).pb, 1, none⟩ = some (.slice (L1.pl s).qa p.queue.length (L1.pl s).qc) := by rw [cell_of_row w3 _ _ _ _ _ hblk3]; rfl
      have f1 : w3.frozen? ⟨(L1.pl s).pb, 1, none⟩ = false := by simp [World.frozen?, hblk3]
      have HBLK3 := hide hblk3; clear hblk3
      refine AnyM.last (i := 13) (by kernel_rfl) rfl rfl (fun K hK => ?_)
      go_simp
      refine hK.out _ _ ?_
      clear hK K
      try simp only [Act.put, List.setIfInBounds_toArray, List.set_cons_zero, List.set_cons_succ, List.getElem_cons_zero, List.getElem_cons_succ, List.getElem_toArray]
      refine AnyM.done (by kernel_rfl) ?_ _
      clear d1 f1
      have hblk5 : (w3.setCell ⟨(L1.pl s).pb, 1, none⟩ (.slice a3 (p.queue.length + 1) c3)).heap[(L1.pl s).pb]? = some (.cells #[.map (some (L1.pl s).hb), .slice a3 (p.queue.length + 1) c3] 71 (0, 0)) := setCell_blk (i := 1) HBLK3.out (.slice a3 (p.queue.length + 1) c3)
      have hcB : Chg (fun k => ρ1 k = .place s ∨ ρ1 k = .queue s) w2 (w3.setCell ⟨(L1.pl s).pb, 1, none⟩ (.slice a3 (p.queue.length + 1) c3)) := (HCA.out.mono (fun k ⟨b, h1, h2⟩ => .inr (by rw [← h2]; exact (HT2.out.pl s p HPL.out).2.2.2 b h1))).trans ((Chg.cell1 w3 (L1.pl s).pb 1 _).mono (fun k hk => .inl (by have : k = (L1.pl s).pb := hk; rw [this]; exact (HT2.out.pl s p HPL.out).2.1)))
      have hQ5 : QAt (w3.setCell ⟨(L1.pl s).pb, 1, none⟩ (.slice a3 (p.queue.length + 1) c3)) a3 (p.queue.length + 1) c3 (p.queue ++ [(o, md)]) := HQ3.out.chg (Chg.cell1 w3 (L1.pl s).pb 1 _) (fun b hb e => by
        have e : b.block = (L1.pl s).pb := e
        rcases HB3.out b hb with h | h
        · rw [e, (HT2.out.pl s p HPL.out).2.1] at h; cases h
        · have := heap_lt HG2.out.blk; omega)
      have hT5 := HT2.out.setQ HPL.out hcB hblk5 hQ5 HB3.out
      have hO5 := TOwn.setQ hcB HB3.out
      clear hblk5 hcB hQ5
      generalize w3.setCell ⟨(L1.pl s).pb, 1, none⟩ (.slice a3 (p.queue.length + 1) c3) = w5 at hT5 hO5 ⊢
      have c5 : w5.cell? ⟨tb, 1, none⟩ = some (.map (some L1.tw)) := by rw [cell_of_row w5 _ _ _ _ _ hT5.blk]; rfl
      have hM5 := hT5.mw
      have HT5 := hide hT5; have HM5 := hide hM5; clear hT5 hM5
      go_wp2_with (at_mapUpdate; refine wpList_put rfl (.tmp 121) (.tmp 122) (.tmp 125) 63 rfl 29 33 Try.underlying63 Try.underlying29 encU_inj encU_key L1.tw rfl HM5.out o rfl (.agg #[.string s, .int .i64 md]) rfl (Hid.out ?_))
      refine hide (fun w6 hM6 hc6 => ?_)
      try go_frame
      have hT6 := HT5.out.addWait (g := (s, md)) hc6 hM6
      have HT6 := hide hT6
      have hO6 : TOwn w5 (roleQ ρ1 a3 s) w6 (roleQ ρ1 a3 s) := ⟨hc6.mono (fun k hk => by have e : k = L1.tw := hk; have h2 : roleQ ρ1 a3 s L1.tw = .mw := HT5.out.rw; rw [e, h2]; simp), fun _ h => .inl h⟩
      clear hT6 hM6 hc6
      go_wp2_with fail
      go_ret
      rw [HR.out]
      exact ⟨rfl, _, _, HT6.out, ((HO.out.trans (TOwn.same (Chg.refl NoB w2))).trans hO5).trans hO6⟩

  | some had =>
    have hv : heldF p o = some (.int .i64 had) := by simp [heldF, hho]
    have HHO := hide hv; clear hv
    obtain ⟨j, hj⟩ : ∃ j, j = joinI had md := ⟨_, rfl⟩
    have HJC : Hid (∀ w, Calls Try.prog 14 #[.int .i64 had, .int .i64 md] w fun e w' => e = .returned (.int .i64 j) ∧ w = w') := hide (fun w => by rw [hj]; exact join_calls had md w)
    have hix : idxP p = -1 := by simp [idxP, HEND.out (by rw [hho]; rfl)]
    have HIX := hide hix; clear hix
    by_cases hjh : j = had
    · have hr : askTail m1 o s md p = (0, m1) := by simp only [askTail, hho]; rw [← hj, if_pos hjh]
      have ej : (j == had) = true := by simp [hjh]
      have HR := hide hr; clear hr hho hj hjh
      go_wp2_with (first | (at_lookup; refine wpList_look_none rfl (.tmp 26) (.tmp 27) 63 rfl 29 33 (.agg #[.string ⟨#[]⟩, .int .i64 0]) Try.underlying63 Try.underlying29 encU_key zeroGr L1.tw rfl HM.out o rfl HL.out ?_) | (at_lookup; refine wpList_look1 rfl (.tmp 35) (.tmp 36) 62 rfl 9 67 (.pointer none) Try.underlying62 Try.underlying9 encS_key zeroPl L1.tp rfl HP.out s rfl _ HL2.out ?_) | (at_lookup; refine wpList_look_some rfl (.tmp 53) (.tmp 54) 68 rfl 29 3 (.int .i64 0) Try.underlying68 Try.underlying29 encU_key zeroInt (L1.pl s).hb rfl HG.out.held o rfl _ HHO.out ?_))
      refine (HJC.out _).mono ?_
      rintro e w1 ⟨rfl, rfl⟩
      go_wp2_with fail
      go_ret
      rw [HR.out]
      exact ⟨rfl, L1, ρ1, HT.out, HO.out⟩
    · have ej : (j == had) = false := by simp [hjh]
      by_cases hgo : goesP p o j
      · have hr : askTail m1 o s md p = (0, m1.hold s p o j) := by simp only [askTail, hho]; rw [← hj, if_neg hjh, if_pos hgo]
        have HR := hide hr; have HGO := hide hgo; clear hr hgo hho hj hjh
        go_wp2_with (first | (at_lookup; refine wpList_look_none rfl (.tmp 26) (.tmp 27) 63 rfl 29 33 (.agg #[.string ⟨#[]⟩, .int .i64 0]) Try.underlying63 Try.underlying29 encU_key zeroGr L1.tw rfl HM.out o rfl HL.out ?_) | (at_lookup; refine wpList_look1 rfl (.tmp 35) (.tmp 36) 62 rfl 9 67 (.pointer none) Try.underlying62 Try.underlying9 encS_key zeroPl L1.tp rfl HP.out s rfl _ HL2.out ?_) | (at_lookup; refine wpList_look_some rfl (.tmp 53) (.tmp 54) 68 rfl 29 3 (.int .i64 0) Try.underlying68 Try.underlying29 encU_key zeroInt (L1.pl s).hb rfl HG.out.held o rfl _ HHO.out ?_))
        refine (HJC.out _).mono ?_
        rintro e w1 ⟨rfl, rfl⟩
        go_wp2_with fail
        refine (goes_calls HG.out o j true ⟨fun _ => HGO.out, fun _ => rfl⟩).mono ?_
        rintro e w2 ⟨rfl, hc2⟩
        clear p0 p1
        have hT2 := HT.out.chg0 hc2
        have tc2 := (hc2.cell (cell_some HTC.out).1 (fun f => f)).trans HTC.out
        have hg2 := (hT2.pl s p HPL.out).1
        have p1 : w2.cell? ⟨(L1.pl s).pb, 1, none⟩ = some (.slice (L1.pl s).qa p.queue.length (L1.pl s).qc) := by rw [cell_of_row w2 _ _ _ _ _ hg2.blk]; rfl
        have p0 : w2.cell? ⟨(L1.pl s).pb, 0, none⟩ = some (.map (some (L1.pl s).hb)) := by rw [cell_of_row w2 _ _ _ _ _ hg2.blk]; rfl
        have HT2 := hide hT2; have HG2 := hide hg2
        clear hT2 hg2

        go_wp2_with fail
        refine (hold_calls HT2.out s p HPL.out o j).mono ?_
        rintro e w3 ⟨rfl, L3, ρ3, hT3, hO3⟩
        have HT3 := hide hT3; clear hT3
        go_wp2_with fail
        go_ret
        rw [HR.out]
        exact ⟨rfl, L3, ρ3, HT3.out, (HO.out.trans (TOwn.same hc2)).trans hO3⟩

      · have hr : askTail m1 o s md p = (10, m1.wait s p o j) := by simp only [askTail, hho]; rw [← hj, if_neg hjh, if_neg hgo]
        have hwt : m1.wait s p o j = (m1.setQ s p (p.queue ++ [(o, j)])).addWait o (s, j) := by
          have : p.at o = p.queue.length := by simp only [PlM.at, hho]; rw [HEND.out (by rw [hho]; rfl)]; rfl
          simp only [TM.wait, this, insQ_end]
        rw [hwt] at hr
        have HR := hide hr; have HGO := hide hgo; clear hr hgo hho hj hjh hwt
        go_wp2_with (first | (at_lookup; refine wpList_look_none rfl (.tmp 26) (.tmp 27) 63 rfl 29 33 (.agg #[.string ⟨#[]⟩, .int .i64 0]) Try.underlying63 Try.underlying29 encU_key zeroGr L1.tw rfl HM.out o rfl HL.out ?_) | (at_lookup; refine wpList_look1 rfl (.tmp 35) (.tmp 36) 62 rfl 9 67 (.pointer none) Try.underlying62 Try.underlying9 encS_key zeroPl L1.tp rfl HP.out s rfl _ HL2.out ?_) | (at_lookup; refine wpList_look_some rfl (.tmp 53) (.tmp 54) 68 rfl 29 3 (.int .i64 0) Try.underlying68 Try.underlying29 encU_key zeroInt (L1.pl s).hb rfl HG.out.held o rfl _ HHO.out ?_))
        refine (HJC.out _).mono ?_
        rintro e w1 ⟨rfl, rfl⟩
        go_wp2_with fail
        refine (goes_calls HG.out o j false ⟨(fun h => by cases h), fun h => absurd h HGO.out⟩).mono ?_
        rintro e wg ⟨rfl, hcg⟩
        clear p0 p1
        have hT2 := HT.out.chg0 hcg
        have tc2 := (hcg.cell (cell_some HTC.out).1 (fun f => f)).trans HTC.out
        have hg2 := (hT2.pl s p HPL.out).1
        have p1 : wg.cell? ⟨(L1.pl s).pb, 1, none⟩ = some (.slice (L1.pl s).qa p.queue.length (L1.pl s).qc) := by rw [cell_of_row wg _ _ _ _ _ hg2.blk]; rfl
        have p0 : wg.cell? ⟨(L1.pl s).pb, 0, none⟩ = some (.map (some (L1.pl s).hb)) := by rw [cell_of_row wg _ _ _ _ _ hg2.blk]; rfl
        have HT2 := hide hT2; have HG2 := hide hg2
        clear hT2 hg2

        go_wp2_with fail
        refine (idx_calls HG2.out (w.heap.size + 1) tc2 (by omega)).mono ?_
        rw [HIX.out]
        rintro e w2 ⟨rfl, hci⟩
        have hc2 := hcg.trans hci
        clear p0 p1 tc2 HT2 HG2
        have hT2 := HT.out.chg0 hc2
        have tc2 := (hc2.cell (cell_some HTC.out).1 (fun f => f)).trans HTC.out
        have hg2 := (hT2.pl s p HPL.out).1
        have p1 : w2.cell? ⟨(L1.pl s).pb, 1, none⟩ = some (.slice (L1.pl s).qa p.queue.length (L1.pl s).qc) := by rw [cell_of_row w2 _ _ _ _ _ hg2.blk]; rfl
        have p0 : w2.cell? ⟨(L1.pl s).pb, 0, none⟩ = some (.map (some (L1.pl s).hb)) := by rw [cell_of_row w2 _ _ _ _ _ hg2.blk]; rfl
        have HT2 := hide hT2; have HG2 := hide hg2
        clear hT2 hg2

        have hpb : ∀ b, (L1.pl s).qa = some b → (L1.pl s).pb ≠ b.block := fun b hb e => by
          obtain ⟨_, g2, _, g4⟩ := HT2.out.pl s p HPL.out
          have := g4 b hb; rw [← e, g2] at this; cases this
        have htcb : ∀ b, (L1.pl s).qa = some b → w.heap.size + 1 ≠ b.block := fun b hb e => by
          have := (HT2.out.pl s p HPL.out).2.2.2 b hb; rw [← e, HTN.out] at this; cases this
        have HKEEP : Hid (∀ w', Chg (fun k => ∃ b, (L1.pl s).qa = some b ∧ b.block = k) w2 w' → (fun w' : World => w'.cell? ⟨w.heap.size + 1, 0, none⟩ = some (.pointer (some ⟨(L1.pl s).pb, 0, none⟩)) ∧ w'.cell? ⟨(L1.pl s).pb, 1, none⟩ = some (.slice (L1.pl s).qa p.queue.length (L1.pl s).qc)) w') := hide (fun w' hc => ⟨(hc.cell (cell_some tc2).1 (fun ⟨b, h1, h2⟩ => htcb b h1 h2.symm)).trans tc2, (hc.cell (cell_some p1).1 (fun ⟨b, h1, h2⟩ => hpb b h1 h2.symm)).trans p1⟩)
        have HPB := hide hpb; clear hpb htcb
        have hAO : Chg NoB w2 (w2.alloc (.cells #[.int .u64 o, .int .i64 j] 77)).drew := (Chg.alloc _ _ _).trans (Chg.drew _ _)
        have HINS := hide (ins_calls (w := (w2.alloc (.cells #[.int .u64 o, .int .i64 j] 77)).drew) (HG2.out.queue.chg hAO (fun _ _ f => f)) (show p.queue.length ≤ 5000000000000 by omega) ⟨w2.heap.size, 0, none⟩ 1 o j (by intro j u hu; rcases j with _ | _ | j <;> simp at hu <;> subst hu <;> (simp only [Addr.add]; go_simp)))
        clear hAO
        go_wp2_with fail
        refine AnyM.region (S := fun w' : World => w'.cell? ⟨w.heap.size + 1, 0, none⟩ = some (.pointer (some ⟨(L1.pl s).pb, 0, none⟩)) ∧ w'.cell? ⟨(L1.pl s).pb, 1, none⟩ = some (.slice (L1.pl s).qa p.queue.length (L1.pl s).qc)) (late := fun i => i == 13) (by kernel_rfl) ?_
        have hHeld : (fun w' : World => w'.cell? ⟨w.heap.size + 1, 0, none⟩ = some (.pointer (some ⟨(L1.pl s).pb, 0, none⟩)) ∧ w'.cell? ⟨(L1.pl s).pb, 1, none⟩ = some (.slice (L1.pl s).qa p.queue.length (L1.pl s).qc)) _ := HKEEP.out _ (Chg.drew _ _)
        refine AnyM.take (i := 0) (v := ?vd0) rfl (by kernel_rfl) (by kernel_rfl) rfl (by kernel_rfl) (by kernel_rfl) (fun _ _ _ h => h) (Or.inl ⟨by rfl, ?yd0⟩) hHeld ?rd0
        case yd0 => (intro w hSw; (try dsimp only at hSw); obtain ⟨q1, q2⟩ := hSw; go_simp; try with_reducible rfl)
        try simp only [Act.put, List.setIfInBounds_toArray, List.set_cons_zero, List.set_cons_succ, List.getElem_cons_zero, List.getElem_cons_succ, List.getElem_toArray]
        refine AnyM.take (i := 1) (v := ?vd1) rfl (by kernel_rfl) (by kernel_rfl) rfl (by kernel_rfl) (by kernel_rfl) (fun _ _ _ h => h) (Or.inl ⟨by rfl, ?yd1⟩) hHeld ?rd1
        case yd1 => (intro w hSw; (try dsimp only at hSw); obtain ⟨q1, q2⟩ := hSw; go_simp; try with_reducible rfl)
        try simp only [Act.put, List.setIfInBounds_toArray, List.set_cons_zero, List.set_cons_succ, List.getElem_cons_zero, List.getElem_cons_succ, List.getElem_toArray]
        refine AnyM.take (i := 2) (v := ?vd2) rfl (by kernel_rfl) (by kernel_rfl) rfl (by kernel_rfl) (by kernel_rfl) (fun _ _ _ h => h) (Or.inl ⟨by rfl, ?yd2⟩) hHeld ?rd2
        case yd2 => (intro w hSw; (try dsimp only at hSw); obtain ⟨q1, q2⟩ := hSw; go_simp; try with_reducible rfl)
        try simp only [Act.put, List.setIfInBounds_toArray, List.set_cons_zero, List.set_cons_succ, List.getElem_cons_zero, List.getElem_cons_succ, List.getElem_toArray]
        refine AnyM.take (i := 3) (v := ?vd3) rfl (by kernel_rfl) (by kernel_rfl) rfl (by kernel_rfl) (by kernel_rfl) (fun _ _ _ h => h) (Or.inl ⟨by rfl, ?yd3⟩) hHeld ?rd3
        case yd3 => (intro w hSw; (try dsimp only at hSw); obtain ⟨q1, q2⟩ := hSw; go_simp; try with_reducible rfl)
        try simp only [Act.put, List.setIfInBounds_toArray, List.set_cons_zero, List.set_cons_succ, List.getElem_cons_zero, List.getElem_cons_succ, List.getElem_toArray]
        refine AnyM.take (i := 4) (v := ?vd4) rfl (by kernel_rfl) (by kernel_rfl) rfl (by kernel_rfl) (by kernel_rfl) (fun _ _ _ h => h) (Or.inl ⟨by rfl, ?yd4⟩) hHeld ?rd4
        case yd4 => (intro w hSw; (try dsimp only at hSw); obtain ⟨q1, q2⟩ := hSw; go_simp; try with_reducible rfl)
        try simp only [Act.put, List.setIfInBounds_toArray, List.set_cons_zero, List.set_cons_succ, List.getElem_cons_zero, List.getElem_cons_succ, List.getElem_toArray]
        refine AnyM.take (i := 5) (v := ?vd5) rfl (by kernel_rfl) (by kernel_rfl) rfl (by kernel_rfl) (by kernel_rfl) (fun _ _ _ h => h) (Or.inl ⟨by rfl, ?yd5⟩) hHeld ?rd5
        case yd5 => (intro w hSw; (try dsimp only at hSw); obtain ⟨q1, q2⟩ := hSw; go_simp; try with_reducible rfl)
        try simp only [Act.put, List.setIfInBounds_toArray, List.set_cons_zero, List.set_cons_succ, List.getElem_cons_zero, List.getElem_cons_succ, List.getElem_toArray]
        refine AnyM.take (i := 6) (v := ?vd6) rfl (by kernel_rfl) (by kernel_rfl) rfl (by kernel_rfl) (by kernel_rfl) (fun _ _ _ h => h) (Or.inl ⟨by rfl, ?yd6⟩) hHeld ?rd6
        case yd6 => (intro w hSw; (try dsimp only at hSw); obtain ⟨q1, q2⟩ := hSw; go_simp; try with_reducible rfl)
        try simp only [Act.put, List.setIfInBounds_toArray, List.set_cons_zero, List.set_cons_succ, List.getElem_cons_zero, List.getElem_cons_succ, List.getElem_toArray]
        refine AnyM.take (i := 7) (v := ?vd7) rfl (by kernel_rfl) (by kernel_rfl) rfl (by kernel_rfl) (by kernel_rfl) (fun _ _ _ h => h) (Or.inl ⟨by rfl, ?yd7⟩) hHeld ?rd7
        case yd7 => (intro w hSw; (try dsimp only at hSw); obtain ⟨q1, q2⟩ := hSw; go_simp; try with_reducible rfl)
        try simp only [Act.put, List.setIfInBounds_toArray, List.set_cons_zero, List.set_cons_succ, List.getElem_cons_zero, List.getElem_cons_succ, List.getElem_toArray]
        refine AnyM.take (i := 8) (v := ?vd8) rfl (by kernel_rfl) (by kernel_rfl) rfl (by kernel_rfl) (by kernel_rfl) (fun _ _ _ h => h) (Or.inl ⟨by rfl, ?yd8⟩) hHeld ?rd8
        case yd8 => (intro w hSw; (try dsimp only at hSw); obtain ⟨q1, q2⟩ := hSw; go_simp; try with_reducible rfl)
        try simp only [Act.put, List.setIfInBounds_toArray, List.set_cons_zero, List.set_cons_succ, List.getElem_cons_zero, List.getElem_cons_succ, List.getElem_toArray]
        refine AnyM.step (i := 9) (by kernel_rfl) rfl rfl (fun K hK => ?_)
        go_simp
        clear hHeld
        refine hK.out _ _ (by first | exact HKEEP.out _ ((Chg.alloc _ _ _).trans (Chg.drew _ _)) | exact HKEEP.out _ HCA.out) (fun hHeld => ?_)
        clear hK K
        try simp only [Act.put, List.setIfInBounds_toArray, List.set_cons_zero, List.set_cons_succ, List.getElem_cons_zero, List.getElem_cons_succ, List.getElem_toArray]
        refine AnyM.step (i := 10) (by kernel_rfl) rfl rfl (fun K hK => ?_)
        go_simp
        refine HINS.out.mono ?_
        rintro e w3 ⟨a3, c3, rfl, hq3, hc3, hb3⟩
        have hcA : Chg (fun k => ∃ b, (L1.pl s).qa = some b ∧ b.block = k) w2 w3 := ((Chg.alloc _ w2 _).trans (Chg.drew _ _)).trans hc3
        have HQ3 := hide hq3; clear hq3
        have HCA := hide hcA; clear hcA hc3
        have HB3 : Hid (∀ b, a3 = some b → ρ1 b.block = .queue s ∨ w2.heap.size ≤ b.block) := hide (fun b hb => (hb3 b hb).elim (fun ⟨b0, h1, h2⟩ => .inl (by rw [← h2]; exact (HT2.out.pl s p HPL.out).2.2.2 b0 h1)) (fun h => .inr (by simp at h; omega)))
        clear hb3
        go_simp
        clear hHeld
        refine hK.out _ _ (by first | exact HKEEP.out _ ((Chg.alloc _ _ _).trans (Chg.drew _ _)) | exact HKEEP.out _ HCA.out) (fun hHeld => ?_)
        clear hK K
        try simp only [Act.put, List.setIfInBounds_toArray, List.set_cons_zero, List.set_cons_succ, List.getElem_cons_zero, List.getElem_cons_succ, List.getElem_toArray]
        refine AnyM.step (i := 11) (by kernel_rfl) rfl rfl (fun K hK => ?_)
        go_simp
        clear hHeld
        refine hK.out _ _ (by first | exact HKEEP.out _ ((Chg.alloc _ _ _).trans (Chg.drew _ _)) | exact HKEEP.out _ HCA.out) (fun hHeld => ?_)
        clear hK K
        try simp only [Act.put, List.setIfInBounds_toArray, List.set_cons_zero, List.set_cons_succ, List.getElem_cons_zero, List.getElem_cons_succ, List.getElem_toArray]
        refine AnyM.step (i := 12) (by kernel_rfl) rfl rfl (fun K hK => ?_)
        go_simp
        clear hHeld
        refine hK.out _ _ (by first | exact HKEEP.out _ ((Chg.alloc _ _ _).trans (Chg.drew _ _)) | exact HKEEP.out _ HCA.out) (fun hHeld => ?_)
        clear hK K
        try simp only [Act.put, List.setIfInBounds_toArray, List.set_cons_zero, List.set_cons_succ, List.getElem_cons_zero, List.getElem_cons_succ, List.getElem_toArray]
        have hblk3 : w3.heap[(L1.pl s).pb]? = some (.cells #[.map (some (L1.pl s).hb), .slice (L1.pl s).qa p.queue.length (L1.pl s).qc] 71 (0, 0)) := HCA.out.blk HG2.out.blk (fun ⟨b, h1, h2⟩ => HPB.out b h1 h2.symm)
        have d1 : w3.cell? ⟨(L1.pl s).pb, 1, none⟩ = some (.slice (L1.pl s).qa p.queue.length (L1.pl s).qc) := by rw [cell_of_row w3 _ _ _ _ _ hblk3]; rfl
        have f1 : w3.frozen? ⟨(L1.pl s).pb, 1, none⟩ = false := by simp [World.frozen?, hblk3]
        have HBLK3 := hide hblk3; clear hblk3
        refine AnyM.last (i := 13) (by kernel_rfl) rfl rfl (fun K hK => ?_)
        go_simp
        refine hK.out _ _ ?_
        clear hK K
        try simp only [Act.put, List.setIfInBounds_toArray, List.set_cons_zero, List.set_cons_succ, List.getElem_cons_zero, List.getElem_cons_succ, List.getElem_toArray]
        refine AnyM.done (by kernel_rfl) ?_ _
        clear d1 f1
        have hblk5 : (w3.setCell ⟨(L1.pl s).pb, 1, none⟩ (.slice a3 (p.queue.length + 1) c3)).heap[(L1.pl s).pb]? = some (.cells #[.map (some (L1.pl s).hb), .slice a3 (p.queue.length + 1) c3] 71 (0, 0)) := setCell_blk (i := 1) HBLK3.out (.slice a3 (p.queue.length + 1) c3)
        have hcB : Chg (fun k => ρ1 k = .place s ∨ ρ1 k = .queue s) w2 (w3.setCell ⟨(L1.pl s).pb, 1, none⟩ (.slice a3 (p.queue.length + 1) c3)) := (HCA.out.mono (fun k ⟨b, h1, h2⟩ => .inr (by rw [← h2]; exact (HT2.out.pl s p HPL.out).2.2.2 b h1))).trans ((Chg.cell1 w3 (L1.pl s).pb 1 _).mono (fun k hk => .inl (by have : k = (L1.pl s).pb := hk; rw [this]; exact (HT2.out.pl s p HPL.out).2.1)))
        have hQ5 : QAt (w3.setCell ⟨(L1.pl s).pb, 1, none⟩ (.slice a3 (p.queue.length + 1) c3)) a3 (p.queue.length + 1) c3 (p.queue ++ [(o, j)]) := HQ3.out.chg (Chg.cell1 w3 (L1.pl s).pb 1 _) (fun b hb e => by
          have e : b.block = (L1.pl s).pb := e
          rcases HB3.out b hb with h | h
          · rw [e, (HT2.out.pl s p HPL.out).2.1] at h; cases h
          · have := heap_lt HG2.out.blk; omega)
        have hT5 := HT2.out.setQ HPL.out hcB hblk5 hQ5 HB3.out
        have hO5 := TOwn.setQ hcB HB3.out
        clear hblk5 hcB hQ5
        generalize w3.setCell ⟨(L1.pl s).pb, 1, none⟩ (.slice a3 (p.queue.length + 1) c3) = w5 at hT5 hO5 ⊢
        have c5 : w5.cell? ⟨tb, 1, none⟩ = some (.map (some L1.tw)) := by rw [cell_of_row w5 _ _ _ _ _ hT5.blk]; rfl
        have hM5 := hT5.mw
        have HT5 := hide hT5; have HM5 := hide hM5; clear hT5 hM5
        go_wp2_with (at_mapUpdate; refine wpList_put rfl (.tmp 121) (.tmp 122) (.tmp 125) 63 rfl 29 33 Try.underlying63 Try.underlying29 encU_inj encU_key L1.tw rfl HM5.out o rfl (.agg #[.string s, .int .i64 j]) rfl (Hid.out ?_))
        refine hide (fun w6 hM6 hc6 => ?_)
        try go_frame
        have hT6 := HT5.out.addWait (g := (s, j)) hc6 hM6
        have HT6 := hide hT6
        have hO6 : TOwn w5 (roleQ ρ1 a3 s) w6 (roleQ ρ1 a3 s) := ⟨hc6.mono (fun k hk => by have e : k = L1.tw := hk; have h2 : roleQ ρ1 a3 s L1.tw = .mw := HT5.out.rw; rw [e, h2]; simp), fun _ h => .inl h⟩
        clear hT6 hM6 hc6
        go_wp2_with fail
        go_ret
        rw [HR.out]
        exact ⟨rfl, _, _, HT6.out, ((HO.out.trans (TOwn.same hc2)).trans hO5).trans hO6⟩
end Go.Proofs.Ytjnbbmchmkiodaa
