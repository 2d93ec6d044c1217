/- DiskApart: the walk. -/
import Derived.Test.YthgejjlhfdegeaaCert
import Derived.Test.YthgejjlhfdegeaaKnown
import Derived.Test.YthgejjlhfdegeaaApartP
namespace Go.Proofs.Ythgejjlhfdegeaa
open Go.RowKit Go.MapKept

set_option linter.unusedSimpArgs false
set_option maxHeartbeats 4000000 in
set_option maxRecDepth 100000 in
theorem apart_walk (w : World) (aa ba : Option Addr) (an ac bn bc : Nat) (l : List Dd) (b : List UInt8) (hds : Dds w aa an l) (hb : BS w ba bn bc b) (hbn : bn ≤ 140737488351232) (han : an ≤ 140737488351232) :
    Calls Try.prog 7 #[.slice aa an ac, .slice ba bn bc] w fun e w' => e = .returned (.bool true) ∧ Chg NoB w w' := by
  obtain ⟨iu, hu, hu0, hu1, hu2⟩ := info_parts infoU8
  have hsz64 : (Try.prog.info? (Try.prog.elem 28)).map (·.size) = some 1 := by kernel_rfl
  have HBL := hide hb.len
  have HNILB : Hid (ba = none → bn = 0 ∧ bc = 0) := fun e => ⟨by have := hb.nil e; have := hb.cap; omega, hb.nil e⟩
  go_enter Try.func7, Try.ntmps7
  go_wp2_with fail
  refine (awake_calls _).mono ?_
  rintro e w1 ⟨rfl, hc1⟩
  go_wp2_with fail
  refine (new_disk 3 400 _ (by omega) (by omega) (by omega)).mono ?_
  rintro e w2 ⟨rfl, hD, hc2, hs2⟩
  have HF0 : Hid ((∀ k, onlyNew w1.heap.size k → w.heap.size ≤ k) ∧ ∀ k, w2.heap.size ≤ k → ¬ onlyNew w1.heap.size k) := ⟨fun k hk => by have := hc1.size; rcases hk with h | h | h <;> omega, fun k hk h => by rcases h with h | h | h <;> omega⟩
  clear hs2
  have hcA := hc1.trans hc2
  generalize onlyNew w1.heap.size = F2 at hD HF0
  generalize w1.heap.size = g0 at hD ⊢
  clear hc1 hc2
  go_wp2_with (first | (at_builtin; refine wpList_app_own rfl (.tmp 27) (.tmp 28) 28 rfl 5 iu (.int .u8 0) 1 1 Try.underlying28 hu hu0 hu1 hu2 rfl (by decide) (some ⟨w2.heap.size, 0, none⟩) 0 0 [] rfl (row_nil w2 5) ba bn bc (bcells b) rfl HNILB.out (by rw [bcells_length, Nat.mul_one]; exact HBL.out.symm) ((hb.chg0 hcA).chg0 (Chg.alloc NoB w2 _)).cell (bcells_one b) (by unfold maxLen; omega) (by omega) (Hid.out ?_)))
  refine hide (fun a3 c3 w3 hr3 hc3 hat3 => ?_)
  try go_frame
  go_wp2_with (first | (at_builtin; refine wpList_app_zeros rfl (.tmp 29) (.const (.int .i64 512)) 28 3 rfl 5 iu (.int .u8 0) 1 .i64 .i64 Try.underlying28 Try.underlying3 hu hu0 hu1 hu2 rfl rfl a3 bn c3 (bcells b) rfl hr3 512 rfl (by omega) (by omega) (by omega) (Hid.out ?_)))
  refine hide (fun a4 c4 w4 hr4 hc4 hat4 => ?_)
  obtain ⟨g, cur, rfl, _, hg, hgc, hgs, hgt⟩ := row_block hr4 (by omega)
  have hcB : Chg NoB w2 w4 := ((Chg.alloc NoB w2 _).trans' hc3 (fun i hi => .inr (by omega))).trans' hc4 (fun i ⟨b, hb, hbi⟩ => .inr (by have := hat3 b hb; omega))
  have hgn : w2.heap.size ≤ g := by
    rcases hat4 _ rfl with ⟨b, hb, hbg⟩ | h
    · have := hat3 b hb; have : b.block = g := hbg; omega
    · have := hc3.size; have : w3.heap.size ≤ g := h; simp only [World.size_alloc] at *; omega
  obtain ⟨x, hxd⟩ : ∃ x, x = (b ++ List.replicate 512 0).take 512 := ⟨_, rfl⟩
  have hxl : x.length = 512 := by rw [hxd, List.length_take, List.length_append, List.length_replicate]; omega
  have hgx : cur.toList.take 512 = bcells x := by
    have e1 : cur.toList.take 512 = (cur.toList.take (bn + 512)).take 512 := by rw [List.take_take, Nat.min_eq_left (by omega)]
    rw [e1, hgt, hxd, bcells_take, bcells_append, zcells_u8]
  have hc4c : (512 : Int) ≤ (c4 : Int) := by omega
  have HBX : Hid (∀ w', w'.heap[g]? = some (.cells cur 5 (0, 0)) → BS w' (some ⟨g, 0, none⟩) 512 c4 x) := fun w' hw => BS.block hw hxl.symm (by omega) hgx
  have HXL := hide hxl; clear hxl hxd hgx hgs hgt
  have HGB := hide (And.intro hgn (heap_lt hg))
  clear hr3 hc3 hat3 hc4 hat4 hr4 hgn w3
  have hS : CS w w2.heap.size w4.heap.size (g0 + 2) g g (.cells cur 5 (0, 0)) (.cells cur 5 (0, 0)) (DM.fresh 3 400) F2 NoB w4 :=
    ⟨hD.chg0 hcB, HF0.out.1, fun k h1 _ => HF0.out.2 k h1, hcA.trans hcB, Nat.le_refl _, hg, hg, HGB.out, HGB.out⟩
  clear hg hD hcA hcB HGB HF0
  generalize w2.heap.size = lo at hS
  generalize hhi : w4.heap.size = hi at hS
  clear hhi
  obtain ⟨p1, hai⟩ := apart_start x HXL.out
  have HP1 := hide p1; clear p1
  have HAI := hide hai; clear hai
  go_wp2_with fail
  refine (hS.dev.write 1 _ _ _ x (HBX.out _ hS.hg) (by simp [DM.fresh])).mono ?_
  rintro e w5 ⟨he, F5, C5, hD5, ho5⟩
  rw [HP1.out] at he
  subst he
  rw [ap1_eq] at hD5
  have hS5 := hS.step hD5 ho5
  clear hD5 ho5 hS HP1
  go_wp2_with fail
  have HDS := hide hds; clear hds
  go_loopw [8] (fun v wr => ∃ (i : Nat) (m : DM) (F C : Nat → Prop), i ≤ an ∧ v = .int .i64 i ∧ CS w lo hi (g0 + 2) g g (.cells cur 5 (0, 0)) (.cells cur 5 (0, 0)) m F C wr ∧ AI m x) (fun v _ => an - (intOf v).toNat)
  case atStart => exact ⟨0, _, F5, C5, by omega, rfl, hS5, HAI.out⟩
  case round =>
    obtain ⟨i, m, F, C, hi4, rfl, hSL, hai⟩ := hrel
    have HAI2 := hide hai; clear hai hS5 HAI
    by_cases hlt : i < an
    · have hlt' : (i : Int) < (an : Int) := by omega
      have hil : i < l.length := by rw [← HDS.out.len]; exact hlt
      obtain ⟨gd, od, rfl, hat⟩ := HDS.out.at_ i l[i] (by simp [hil])
      have HOR : Hid (∀ F C m (w' : World), CS w lo hi (g0 + 2) g g (.cells cur 5 (0, 0)) (.cells cur 5 (0, 0)) m F C w' → ∀ b, l[i].a = some b → 0 < l[i].k → ¬ F b.block) := fun F C m w' h b hb hp hf => by have := h.own _ hf; have := hat.bs.lt hp b hb; omega
      have hat2 := hat.chg0 hSL.chg
      have c0 := hat2.op
      have c1 := hat2.n
      have c2 := hat2.v
      have HAT := hide hat; clear hat hat2
      generalize l[i] = d at c0 c1 c2 HOR HAT
      clear hil
      by_cases h2 : 2 ≤ d.op
      · by_cases h6 : d.op ≤ 6
        · go_wp2_with fail
          go_still_tail 16, (by kernel_rfl)
          have hSd := hSL.same (Chg.drew NoB wr)
          have hcn : (m.waiting.length + 1) * 32 ≤ 140737488355328 := by rw [HAI2.out.wait]; simp
          have HCN := hide hcn; clear hcn
          clear c0 c1 c2 hSL
          go_wp2_with fail
          refine (ask_calls hSd.dev d.op d.n d.a d.k d.c d.b (HAT.out.bs.chg0 hSd.chg) (HOR.out _ _ _ _ hSd) HAT.out.max HCN.out).mono ?_
          rintro e w6 ⟨rfl, F6, C6, hD6, ho6⟩
          have hS6 := hSd.step hD6 ho6
          have HAI3 := hide (HAI2.out.ask d.op d.n d.b h2 h6)
          clear hD6 ho6 hSd
          go_wp2_with fail
          go_roundw
          case rel => exact ⟨i + 1, _, F6, C6, by omega, by go_num, hS6, HAI3.out⟩
          case measure => simp [intOf]; omega
        · go_wp2_with fail
          go_roundw
          case rel => exact ⟨i + 1, _, F, C, by omega, by go_num, hSL, HAI2.out⟩
          case measure => simp [intOf]; omega
      · go_wp2_with fail
        go_roundw
        case rel => exact ⟨i + 1, _, F, C, by omega, by go_num, hSL, HAI2.out⟩
        case measure => simp [intOf]; omega
    · obtain rfl : i = an := by omega
      clear hi4 hlt
      obtain ⟨f1, f2, f3, f4, f5, f6, f7, f8, f9, f10, f11, f12, f13⟩ := HAI2.out.facts HXL.out (hSL.dev.ok.alive HAI2.out.dead).1
      have HF1 := hide f1; have HF2 := hide f2; have HF3 := hide f3; have HF4 := hide f4; have HF5 := hide f5; have HF6 := hide f6; have HF7 := hide f7; have HF8 := hide f8; have HF9 := hide f9; have HF10 := hide f10; have HF11 := hide f11; have HF12 := hide f12; have HF13 := hide f13
      clear f1 f2 f3 f4 f5 f6 f7 f8 f9 f10 f11 f12 f13 HAI2
      go_wp2_with fail
      refine (hSL.dev.read 1).mono ?_
      rw [HF1.out]
      rintro e w6 (⟨_, rfl, rfl⟩ | ⟨hne, _⟩)
      rotate_left
      · exact absurd rfl hne
      simp only [HXL.out]
      have hP : BS (wr.alloc (.cells (bcells x).toArray 5)) (some ⟨wr.heap.size, 0, none⟩) 512 512 x := BS.newblock wr x HXL.out.symm
      have hcc := Chg.alloc NoB wr (.cells (bcells x).toArray 5)
      generalize wr.alloc (.cells (bcells x).toArray 5) = w6 at hP hcc ⊢
      generalize wr.heap.size = gp at hP ⊢
      have hS6 := hSL.same hcc
      clear hcc hSL
      go_wp2_with fail
      refine ((hS6.dev.chg0 (Chg.alloc _ _ _)).crash _ _ _ [1] (made1 _) (by rw [HF11.out]; omega)).mono ?_
      rintro e w7 ⟨xb, FX, CX, rfl, hX, hcc, -, -⟩
      have hcc := (Chg.alloc NoB w6 _).trans hcc
      have hS7 := hS6.same hcc
      have hP7 := hP.chg0 hcc
      clear hcc hS6 hP
      go_wp2_with fail
      refine (hX.read 1).mono ?_
      rw [HF2.out]
      rintro e w8 (⟨_, rfl, rfl⟩ | ⟨hne, _⟩)
      rotate_left
      · exact absurd rfl hne
      simp only [zeros512_length]
      have hZ : BS (w7.alloc (.cells (bcells zeros512).toArray 5)) (some ⟨w7.heap.size, 0, none⟩) 512 512 zeros512 := BS.newblock w7 zeros512 zeros512_length.symm
      have hcc := Chg.alloc NoB w7 (.cells (bcells zeros512).toArray 5)
      generalize w7.alloc (.cells (bcells zeros512).toArray 5) = w8 at hZ hcc ⊢
      generalize w7.heap.size = gz at hZ ⊢
      have hS8 := hS7.same hcc
      have hP8 := hP7.chg0 hcc
      clear hcc hS7 hP7 hX
      go_wp2_with fail
      refine (hS8.dev.log).mono ?_
      rw [HF3.out]
      rintro e w9 (⟨_, rfl, rfl⟩ | ⟨hne, _⟩)
      rotate_left
      · exact absurd rfl hne
      have hL : BS (w8.alloc (.cells (bcells m.log).toArray 5)) (some ⟨w8.heap.size, 0, none⟩) m.log.length m.log.length m.log := BS.newblock w8 m.log rfl
      have hcc := Chg.alloc NoB w8 (.cells (bcells m.log).toArray 5)
      generalize w8.alloc (.cells (bcells m.log).toArray 5) = w9 at hL hcc ⊢
      have hnl : ∀ k, F k → k < w8.heap.size := hS8.dev.lt
      generalize w8.heap.size = gl at hL hnl ⊢
      have HNL := hide hnl; clear hnl
      have hS9 := hS8.same hcc
      have hP9 := hP8.chg0 hcc
      have hZ9 := hZ.chg0 hcc
      clear hcc hS8 hP8 hZ
      go_wp2_with fail
      refine (hS9.dev.marked).mono ?_
      rw [HF4.out]
      rintro e w10 (⟨_, rfl, rfl⟩ | ⟨hne, _⟩)
      rotate_left
      · exact absurd rfl hne
      have hM : BS (w9.alloc (.cells (bcells m.mark).toArray 5)) (some ⟨w9.heap.size, 0, none⟩) m.mark.length m.mark.length m.mark := BS.newblock w9 m.mark rfl
      have hcc := Chg.alloc NoB w9 (.cells (bcells m.mark).toArray 5)
      generalize w9.alloc (.cells (bcells m.mark).toArray 5) = w10 at hM hcc ⊢
      have hnm : ∀ k, F k → k < w9.heap.size := hS9.dev.lt
      generalize w9.heap.size = gm at hM hnm ⊢
      have HNM := hide hnm; clear hnm
      have hS10 := hS9.same hcc
      have hP10 := hP9.chg0 hcc
      have hZ10 := hZ9.chg0 hcc
      have hL10 := hL.chg0 hcc
      clear hcc hS9 hP9 hZ9 hL
      go_wp2_with fail
      refine (hS10.dev.certain).mono ?_
      rintro e w11 ⟨rfl, rfl⟩
      go_wp2_with fail
      have hmk : ∀ u : World, (Instr.makeSlice 28 (.int .i64 512) (.int .i64 512)).run Try.prog u = .ok (.slice (some ⟨u.heap.size, 0, none⟩) 512 512) (u.alloc (.cells (bcells zeros512).toArray 5)) := fun u => by
        have h := run_make (P := Try.prog) u 28 5 iu (.int .u8 0) Try.underlying28 hu hu0 .i64 .i64 512 512 (by omega) (Int.le_refl _) (by rw [hu2]; omega) (by omega)
        rw [made_zeros]
        simpa [hu1, Value.cells] using h
      have HKEEP := hide (fun w' (hc : Chg NoB w10 w') => And.intro (conv_str (hP10.chg0 hc)) (And.intro (conv_str ((HBX.out _ hS10.hg).chg0 hc)) (conv_str (hZ10.chg0 hc))))
      have K1 : ∀ w', Chg NoB (w10.alloc (.cells (bcells zeros512).toArray 5)) w' → (convert 28 9 (.slice (some ⟨w10.heap.size, 0, none⟩) 512 512)).run Try.prog w' = .ok (.string (strOf zeros512)) w' := fun w' hc => conv_str ((BS.newblock w10 zeros512 zeros512_length.symm).chg0 hc)
      have k1 := K1 _ (Chg.drew _ _)
      have k1' := K1 _ (Chg.refl _ _)
      have HS10 := hide hS10; have HL10 := hide hL10; have HM10 := hide hM
      clear hS10 hL10 hM K1 hP10 hZ10
      refine wp_region_held_drew (S := fun w' => (convert 28 9 (.slice (some ⟨gp, 0, none⟩) 512 512)).run Try.prog w' = .ok (.string (strOf x)) w' ∧ (convert 28 9 (.slice (some ⟨g, 0, none⟩) 512 c4)).run Try.prog w' = .ok (.string (strOf x)) w' ∧ (convert 28 9 (.slice (some ⟨gz, 0, none⟩) 512 512)).run Try.prog w' = .ok (.string (strOf zeros512)) w') (by kernel_rfl) (HKEEP.out _ (Chg.drew _ _)) (fun hHeld => ?_)
      refine wpAnyH_take (i := 0) (v := ?va0) rfl (by kernel_rfl) (by kernel_rfl) (by kernel_rfl) (fun _ _ _ h => h) (Or.inl ⟨by rfl, ?ya0⟩) hHeld ?ra0
      case ya0 => (intro w hSw; obtain ⟨hS1, hS2, hS3⟩ := hSw; go_simp; try with_reducible rfl)
      try simp only [Act.put, List.setIfInBounds_toArray, List.set_cons_zero, List.set_cons_succ, List.getElem_cons_zero, List.getElem_cons_succ, List.getElem_toArray]
      refine wpAnyH_take (i := 1) (v := ?va1) rfl (by kernel_rfl) (by kernel_rfl) (by kernel_rfl) (fun _ _ _ h => h) (Or.inl ⟨by rfl, ?ya1⟩) hHeld ?ra1
      case ya1 => (intro w hSw; obtain ⟨hS1, hS2, hS3⟩ := hSw; go_simp; try with_reducible rfl)
      try simp only [Act.put, List.setIfInBounds_toArray, List.set_cons_zero, List.set_cons_succ, List.getElem_cons_zero, List.getElem_cons_succ, List.getElem_toArray]
      refine wpAnyH_take (i := 2) (v := ?va2) rfl (by kernel_rfl) (by kernel_rfl) (by kernel_rfl) (fun _ _ _ h => h) (Or.inl ⟨by rfl, ?ya2⟩) hHeld ?ra2
      case ya2 => (intro w hSw; obtain ⟨hS1, hS2, hS3⟩ := hSw; go_simp; try with_reducible rfl)
      try simp only [Act.put, List.setIfInBounds_toArray, List.set_cons_zero, List.set_cons_succ, List.getElem_cons_zero, List.getElem_cons_succ, List.getElem_toArray]
      refine wpAnyH_take (i := 3) (v := ?va3) rfl (by kernel_rfl) (by kernel_rfl) (by kernel_rfl) (fun _ _ _ h => h) (Or.inl ⟨by rfl, ?ya3⟩) hHeld ?ra3
      case ya3 => (intro w hSw; obtain ⟨hS1, hS2, hS3⟩ := hSw; go_simp; try with_reducible rfl)
      try simp only [Act.put, List.setIfInBounds_toArray, List.set_cons_zero, List.set_cons_succ, List.getElem_cons_zero, List.getElem_cons_succ, List.getElem_toArray]
      refine wpAnyH_take (i := 4) (v := ?va4) rfl (by kernel_rfl) (by kernel_rfl) (by kernel_rfl) (fun _ _ _ h => h) (Or.inl ⟨by rfl, ?ya4⟩) hHeld ?ra4
      case ya4 => (intro w hSw; obtain ⟨hS1, hS2, hS3⟩ := hSw; go_simp; try with_reducible rfl)
      try simp only [Act.put, List.setIfInBounds_toArray, List.set_cons_zero, List.set_cons_succ, List.getElem_cons_zero, List.getElem_cons_succ, List.getElem_toArray]
      refine wpAnyH_take (i := 5) (v := ?va5) rfl (by kernel_rfl) (by kernel_rfl) (by kernel_rfl) (fun _ _ _ h => h) (Or.inl ⟨by rfl, ?ya5⟩) hHeld ?ra5
      case ya5 => (intro w hSw; obtain ⟨hS1, hS2, hS3⟩ := hSw; go_simp; try with_reducible rfl)
      try simp only [Act.put, List.setIfInBounds_toArray, List.set_cons_zero, List.set_cons_succ, List.getElem_cons_zero, List.getElem_cons_succ, List.getElem_toArray]
      refine wpAnyH_take (i := 6) (v := ?va6) rfl (by kernel_rfl) (by kernel_rfl) (by kernel_rfl) (fun _ _ _ h => h) (Or.inl ⟨by rfl, ?ya6⟩) hHeld ?ra6
      case ya6 => (intro w hSw; obtain ⟨hS1, hS2, hS3⟩ := hSw; go_simp; try with_reducible rfl)
      try simp only [Act.put, List.setIfInBounds_toArray, List.set_cons_zero, List.set_cons_succ, List.getElem_cons_zero, List.getElem_cons_succ, List.getElem_toArray]
      refine wpAnyH_take (i := 7) (v := ?va7) rfl (by kernel_rfl) (by kernel_rfl) (by kernel_rfl) (fun _ _ _ h => h) (Or.inl ⟨by rfl, ?ya7⟩) hHeld ?ra7
      case ya7 => (intro w hSw; obtain ⟨hS1, hS2, hS3⟩ := hSw; go_simp; try with_reducible rfl)
      try simp only [Act.put, List.setIfInBounds_toArray, List.set_cons_zero, List.set_cons_succ, List.getElem_cons_zero, List.getElem_cons_succ, List.getElem_toArray]
      refine wpAnyH_take (i := 8) (v := ?va8) rfl (by kernel_rfl) (by kernel_rfl) (by kernel_rfl) (fun _ _ _ h => h) (Or.inl ⟨by rfl, ?ya8⟩) hHeld ?ra8
      case ya8 => (intro w hSw; obtain ⟨hS1, hS2, hS3⟩ := hSw; go_simp; try with_reducible rfl)
      try simp only [Act.put, List.setIfInBounds_toArray, List.set_cons_zero, List.set_cons_succ, List.getElem_cons_zero, List.getElem_cons_succ, List.getElem_toArray]
      refine wpAnyH_take (i := 9) (v := ?va9) rfl (by kernel_rfl) (by kernel_rfl) (by kernel_rfl) (fun _ _ _ h => h) (Or.inl ⟨by rfl, ?ya9⟩) hHeld ?ra9
      case ya9 => (intro w hSw; obtain ⟨hS1, hS2, hS3⟩ := hSw; go_simp; try with_reducible rfl)
      try simp only [Act.put, List.setIfInBounds_toArray, List.set_cons_zero, List.set_cons_succ, List.getElem_cons_zero, List.getElem_cons_succ, List.getElem_toArray]
      refine wpAnyH_take (i := 10) (v := ?va10) rfl (by kernel_rfl) (by kernel_rfl) (by kernel_rfl) (fun _ _ _ h => h) (Or.inl ⟨by rfl, ?ya10⟩) hHeld ?ra10
      case ya10 => (intro w hSw; obtain ⟨hS1, hS2, hS3⟩ := hSw; go_simp; try with_reducible rfl)
      try simp only [Act.put, List.setIfInBounds_toArray, List.set_cons_zero, List.set_cons_succ, List.getElem_cons_zero, List.getElem_cons_succ, List.getElem_toArray]
      refine wpAnyH_take (i := 11) (v := ?va11) rfl (by kernel_rfl) (by kernel_rfl) (by kernel_rfl) (fun _ _ _ h => h) (Or.inl ⟨by rfl, ?ya11⟩) hHeld ?ra11
      case ya11 => (intro w hSw; obtain ⟨hS1, hS2, hS3⟩ := hSw; go_simp; try with_reducible rfl)
      try simp only [Act.put, List.setIfInBounds_toArray, List.set_cons_zero, List.set_cons_succ, List.getElem_cons_zero, List.getElem_cons_succ, List.getElem_toArray]
      refine wpAnyH_take (i := 12) (v := ?va12) rfl (by kernel_rfl) (by kernel_rfl) (by kernel_rfl) (fun _ _ _ h => h) (Or.inl ⟨by rfl, ?ya12⟩) hHeld ?ra12
      case ya12 => (intro w hSw; obtain ⟨hS1, hS2, hS3⟩ := hSw; go_simp; try with_reducible rfl)
      try simp only [Act.put, List.setIfInBounds_toArray, List.set_cons_zero, List.set_cons_succ, List.getElem_cons_zero, List.getElem_cons_succ, List.getElem_toArray]
      refine wpAnyH_take (i := 13) (v := ?va13) rfl (by kernel_rfl) (by kernel_rfl) (by kernel_rfl) (fun _ _ _ h => h) (Or.inl ⟨by rfl, ?ya13⟩) hHeld ?ra13
      case ya13 => (intro w hSw; obtain ⟨hS1, hS2, hS3⟩ := hSw; go_simp; try with_reducible rfl)
      try simp only [Act.put, List.setIfInBounds_toArray, List.set_cons_zero, List.set_cons_succ, List.getElem_cons_zero, List.getElem_cons_succ, List.getElem_toArray]
      refine wpAnyH_take (i := 14) (v := ?va14) rfl (by kernel_rfl) (by kernel_rfl) (by kernel_rfl) (fun _ _ _ h => h) (Or.inl ⟨by rfl, ?ya14⟩) hHeld ?ra14
      case ya14 => (intro w hSw; obtain ⟨hS1, hS2, hS3⟩ := hSw; go_simp; try with_reducible rfl)
      try simp only [Act.put, List.setIfInBounds_toArray, List.set_cons_zero, List.set_cons_succ, List.getElem_cons_zero, List.getElem_cons_succ, List.getElem_toArray]
      refine wpAnyH_take (i := 15) (v := ?va15) rfl (by kernel_rfl) (by kernel_rfl) (by kernel_rfl) (fun _ _ _ h => h) (Or.inl ⟨by rfl, ?ya15⟩) hHeld ?ra15
      case ya15 => (intro w hSw; obtain ⟨hS1, hS2, hS3⟩ := hSw; go_simp; try with_reducible rfl)
      try simp only [Act.put, List.setIfInBounds_toArray, List.set_cons_zero, List.set_cons_succ, List.getElem_cons_zero, List.getElem_cons_succ, List.getElem_toArray]
      refine wpAnyH_ready (rs := [16]) (by kernel_rfl) (by simp) ?_
      refine AllReadyH.cons rfl (fun K hK => ?_) AllReadyH.nil
      go_simp
      refine hK.out _ _ (by first | exact HKEEP.out _ (Chg.drew _ _) | exact HKEEP.out _ ((Chg.alloc _ _ _).trans (Chg.drew _ _))) (fun hHeld => ?_)
      clear hK K
      try simp only [Act.put, List.setIfInBounds_toArray, List.set_cons_zero, List.set_cons_succ, List.getElem_cons_zero, List.getElem_cons_succ, List.getElem_toArray]
      refine wpAnyH_ready (rs := [17]) (by kernel_rfl) (by simp) ?_
      refine AllReadyH.cons rfl (fun K hK => ?_) AllReadyH.nil
      go_simp
      refine hK.out _ _ (by first | exact HKEEP.out _ (Chg.drew _ _) | exact HKEEP.out _ ((Chg.alloc _ _ _).trans (Chg.drew _ _))) (fun hHeld => ?_)
      clear hK K
      try simp only [Act.put, List.setIfInBounds_toArray, List.set_cons_zero, List.set_cons_succ, List.getElem_cons_zero, List.getElem_cons_succ, List.getElem_toArray]
      refine wpAnyH_take (i := 18) (v := ?va18) rfl (by kernel_rfl) (by kernel_rfl) (by kernel_rfl) (fun _ _ _ h => h) (Or.inl ⟨by rfl, ?ya18⟩) hHeld ?ra18
      case ya18 => (intro w hSw; obtain ⟨hS1, hS2, hS3⟩ := hSw; go_simp; try with_reducible rfl)
      try simp only [Act.put, List.setIfInBounds_toArray, List.set_cons_zero, List.set_cons_succ, List.getElem_cons_zero, List.getElem_cons_succ, List.getElem_toArray]
      refine wpAnyH_take (i := 19) (v := ?va19) rfl (by kernel_rfl) (by kernel_rfl) (by kernel_rfl) (fun _ _ _ h => h) (Or.inl ⟨by rfl, ?ya19⟩) hHeld ?ra19
      case ya19 => (intro w hSw; obtain ⟨hS1, hS2, hS3⟩ := hSw; go_simp; try with_reducible rfl)
      try simp only [Act.put, List.setIfInBounds_toArray, List.set_cons_zero, List.set_cons_succ, List.getElem_cons_zero, List.getElem_cons_succ, List.getElem_toArray]
      refine wpAnyH_take (i := 20) (v := ?va20) rfl (by kernel_rfl) (by kernel_rfl) (by kernel_rfl) (fun _ _ _ h => h) (Or.inl ⟨by rfl, ?ya20⟩) hHeld ?ra20
      case ya20 => (intro w hSw; obtain ⟨hS1, hS2, hS3⟩ := hSw; go_simp; try with_reducible rfl)
      try simp only [Act.put, List.setIfInBounds_toArray, List.set_cons_zero, List.set_cons_succ, List.getElem_cons_zero, List.getElem_cons_succ, List.getElem_toArray]
      refine wpAnyH_take (i := 21) (v := ?va21) rfl (by kernel_rfl) (by kernel_rfl) (by kernel_rfl) (fun _ _ _ h => h) (Or.inl ⟨by rfl, ?ya21⟩) hHeld ?ra21
      case ya21 => (intro w hSw; obtain ⟨hS1, hS2, hS3⟩ := hSw; go_simp; try with_reducible rfl)
      try simp only [Act.put, List.setIfInBounds_toArray, List.set_cons_zero, List.set_cons_succ, List.getElem_cons_zero, List.getElem_cons_succ, List.getElem_toArray]
      refine wpAnyH_take (i := 22) (v := ?va22) rfl (by kernel_rfl) (by kernel_rfl) (by kernel_rfl) (fun _ _ _ h => h) (Or.inl ⟨by rfl, ?ya22⟩) hHeld ?ra22
      case ya22 => (intro w hSw; obtain ⟨hS1, hS2, hS3⟩ := hSw; go_simp; try with_reducible rfl)
      try simp only [Act.put, List.setIfInBounds_toArray, List.set_cons_zero, List.set_cons_succ, List.getElem_cons_zero, List.getElem_cons_succ, List.getElem_toArray]
      refine wpAnyH_take (i := 23) (v := ?va23) rfl (by kernel_rfl) (by kernel_rfl) (by kernel_rfl) (fun _ _ _ h => h) (Or.inl ⟨by rfl, ?ya23⟩) hHeld ?ra23
      case ya23 => (intro w hSw; obtain ⟨hS1, hS2, hS3⟩ := hSw; go_simp; try with_reducible rfl)
      try simp only [Act.put, List.setIfInBounds_toArray, List.set_cons_zero, List.set_cons_succ, List.getElem_cons_zero, List.getElem_cons_succ, List.getElem_toArray]
      refine wpAnyH_take (i := 24) (v := ?va24) rfl (by kernel_rfl) (by kernel_rfl) (by kernel_rfl) (fun _ _ _ h => h) (Or.inl ⟨by rfl, ?ya24⟩) hHeld ?ra24
      case ya24 => (intro w hSw; obtain ⟨hS1, hS2, hS3⟩ := hSw; go_simp; try with_reducible rfl)
      try simp only [Act.put, List.setIfInBounds_toArray, List.set_cons_zero, List.set_cons_succ, List.getElem_cons_zero, List.getElem_cons_succ, List.getElem_toArray]
      refine wpAnyH_take (i := 25) (v := ?va25) rfl (by kernel_rfl) (by kernel_rfl) (by kernel_rfl) (fun _ _ _ h => h) (Or.inl ⟨by rfl, ?ya25⟩) hHeld ?ra25
      case ya25 => (intro w hSw; obtain ⟨hS1, hS2, hS3⟩ := hSw; go_simp; try with_reducible rfl)
      try simp only [Act.put, List.setIfInBounds_toArray, List.set_cons_zero, List.set_cons_succ, List.getElem_cons_zero, List.getElem_cons_succ, List.getElem_toArray]
      refine wpAnyH_take (i := 26) (v := ?va26) rfl (by kernel_rfl) (by kernel_rfl) (by kernel_rfl) (fun _ _ _ h => h) (Or.inl ⟨by rfl, ?ya26⟩) hHeld ?ra26
      case ya26 => (intro w hSw; obtain ⟨hS1, hS2, hS3⟩ := hSw; go_simp; try with_reducible rfl)
      try simp only [Act.put, List.setIfInBounds_toArray, List.set_cons_zero, List.set_cons_succ, List.getElem_cons_zero, List.getElem_cons_succ, List.getElem_toArray]
      refine wpAnyH_take (i := 27) (v := ?va27) rfl (by kernel_rfl) (by kernel_rfl) (by kernel_rfl) (fun _ _ _ h => h) (Or.inl ⟨by rfl, ?ya27⟩) hHeld ?ra27
      case ya27 => (intro w hSw; obtain ⟨hS1, hS2, hS3⟩ := hSw; go_simp; try with_reducible rfl)
      try simp only [Act.put, List.setIfInBounds_toArray, List.set_cons_zero, List.set_cons_succ, List.getElem_cons_zero, List.getElem_cons_succ, List.getElem_toArray]
      refine wpAnyH_done (by kernel_rfl) ?_ _
      have hcc : Chg NoB w10 (w10.alloc (.cells (bcells zeros512).toArray 5)).drew := (Chg.alloc _ _ _).trans (Chg.drew _ _)
      generalize (w10.alloc (.cells (bcells zeros512).toArray 5)).drew = w11 at hcc ⊢
      have hS11 := HS10.out.same hcc
      have hL11 := HL10.out.chg0 hcc
      have hM11 := HM10.out.chg0 hcc
      clear hcc HS10 HL10 HM10 k1 k1' HKEEP
      go_wp2_with fail
      refine (hS11.dev.sync).mono ?_
      rintro e w12 ⟨he, F12, C12, hD12, ho12⟩
      rw [HF5.out] at he
      subst he
      have hS12 := hS11.step hD12 ho12
      have hL12 := hL11.chgw ho12.chg (fun b hb _ hf => by cases hb; exact absurd (HNL.out _ hf) (Nat.lt_irrefl _))
      have hM12 := hM11.chgw ho12.chg (fun b hb _ hf => by cases hb; exact absurd (HNM.out _ hf) (Nat.lt_irrefl _))
      have HF12' : Hid (∀ k, F12 k → F k ∨ w11.heap.size ≤ k) := ho12.f
      have HL11 := hide hL11; have HM11 := hide hM11
      clear hD12 ho12 hS11 hL11 hM11
      go_wp2_with fail
      refine (hS12.dev.write 2 _ _ _ x (HBX.out _ hS12.hg) (by rw [HF12.out]; simp)).mono ?_
      rintro e w13 ⟨he, F13, C13, hD13, ho13⟩
      rw [HF6.out] at he
      subst he
      have hS13 := hS12.step hD13 ho13
      have hL13 := hL12.chgw ho13.chg (fun b hb hp hf => by cases hb; rcases HF12'.out _ hf with h | h; exact absurd (HNL.out _ h) (Nat.lt_irrefl _); exact absurd (HL11.out.lt hp _ rfl) (Nat.not_lt.2 h))
      have hM13 := hM12.chgw ho13.chg (fun b hb hp hf => by cases hb; rcases HF12'.out _ hf with h | h; exact absurd (HNM.out _ h) (Nat.lt_irrefl _); exact absurd (HM11.out.lt hp _ rfl) (Nat.not_lt.2 h))
      clear hD13 ho13 hS12 hL12 hM12 HL11 HM11 HF12' HNL HNM
      generalize (m.sync.1.write 2 x).1 = mw at hS13 HF7 HF8 HF9 HF10 HF13
      go_wp2_with fail
      refine (hS13.dev.certain).mono ?_
      rw [HF7.out]
      rintro e w14 ⟨rfl, rfl⟩
      go_wp2_with fail
      refine (hS13.dev.log).mono ?_
      rw [HF8.out]
      rintro e w14 (⟨_, rfl, rfl⟩ | ⟨hne, _⟩)
      rotate_left
      · exact absurd rfl hne
      have hN : BS (w13.alloc (.cells (bcells m.log).toArray 5)) (some ⟨w13.heap.size, 0, none⟩) m.log.length m.log.length m.log := BS.newblock w13 m.log rfl
      have hcc := Chg.alloc NoB w13 (.cells (bcells m.log).toArray 5)
      generalize w13.alloc (.cells (bcells m.log).toArray 5) = w14 at hN hcc ⊢
      generalize w13.heap.size = gn at hN ⊢
      have hS14 := hS13.same hcc
      have hL14 := hL13.chg0 hcc
      have hM14 := hM13.chg0 hcc
      clear hcc hS13 hL13 hM13
      go_wp2_with fail
      refine (hS14.dev.marked).mono ?_
      rw [HF9.out]
      rintro e w15 (⟨_, rfl, rfl⟩ | ⟨hne, _⟩)
      rotate_left
      · exact absurd rfl hne
      have hA : BS (w14.alloc (.cells (bcells m.mark).toArray 5)) (some ⟨w14.heap.size, 0, none⟩) m.mark.length m.mark.length m.mark := BS.newblock w14 m.mark rfl
      have hcc := Chg.alloc NoB w14 (.cells (bcells m.mark).toArray 5)
      generalize w14.alloc (.cells (bcells m.mark).toArray 5) = w15 at hA hcc ⊢
      generalize w14.heap.size = ga at hA ⊢
      have hS15 := hS14.same hcc
      have hL15 := hL14.chg0 hcc
      have hM15 := hM14.chg0 hcc
      have hN15 := hN.chg0 hcc
      clear hcc hS14 hL14 hM14 hN
      go_wp2_with fail
      refine ((hS15.dev.chg0 (Chg.alloc _ _ _)).crash _ _ _ [1] (made1 _) (by rw [HF13.out]; omega)).mono ?_
      rintro e w16 ⟨xb2, FX2, CX2, rfl, hX, hcc, -, -⟩
      have hcc := (Chg.alloc NoB w15 _).trans hcc
      have hS16 := hS15.same hcc
      have hL16 := hL15.chg0 hcc
      have hM16 := hM15.chg0 hcc
      have hN16 := hN15.chg0 hcc
      have hA16 := hA.chg0 hcc
      clear hcc hS15 hL15 hM15 hN15 hA
      go_wp2_with fail
      refine (hX.read 1).mono ?_
      rw [HF10.out]
      rintro e w17 (⟨_, rfl, rfl⟩ | ⟨hne, _⟩)
      rotate_left
      · exact absurd rfl hne
      simp only [HXL.out]
      have hK : BS (w16.alloc (.cells (bcells x).toArray 5)) (some ⟨w16.heap.size, 0, none⟩) 512 512 x := BS.newblock w16 x HXL.out.symm
      have hcc := Chg.alloc NoB w16 (.cells (bcells x).toArray 5)
      generalize w16.alloc (.cells (bcells x).toArray 5) = w17 at hK hcc ⊢
      generalize w16.heap.size = gk at hK ⊢
      have hS17 := hS16.same hcc
      have hL17 := hL16.chg0 hcc
      have hM17 := hM16.chg0 hcc
      have hN17 := hN16.chg0 hcc
      have hA17 := hA16.chg0 hcc
      clear hcc hS16 hL16 hM16 hN16 hA16 hX
      have k1 := conv_str hN17
      have k2 := conv_str hL17
      have k3 := conv_str hA17
      have k4 := conv_str hM17
      have k5 := conv_str hK
      have k6 := conv_str (HBX.out _ hS17.hg)
      have HS17 := hide hS17
      clear hS17 hN17 hL17 hA17 hM17 hK
      generalize m.log.length = L1 at k1 k2 ⊢
      generalize m.mark.length = L2 at k3 k4 ⊢
      go_wp2_with fail
      go_ret
      exact ⟨rfl, HS17.out.chg⟩
end Go.Proofs.Ythgejjlhfdegeaa
