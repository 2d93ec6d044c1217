/- DiskFuse: the walk. -/
import Derived.Test.YthgejjlhfdegeaaKnown
import Derived.Test.YthgejjlhfdegeaaFuseP

namespace Go.Proofs.Ythgejjlhfdegeaa
open Go.RowKit Go.MapKept

/-- A device, all of it new since w0. -/
structure DS (w0 : World) (sb : Nat) (m : DM) (F C : Nat → Prop) (wr : World) : Prop where
  dev : Disk wr sb m F C
  own : ∀ k, F k → w0.heap.size ≤ k
  chg : Chg NoB w0 wr
section
variable {w0 w w' : World} {sb : Nat} {m m' : DM} {F C F' C' : Nat → Prop}
theorem DS.step (h : DS w0 sb m F C w) (hd : Disk w' sb m' F' C') (ho : Own w F C w' F' C') : DS w0 sb m' F' C' w' :=
  ⟨hd, fun k hk => (ho.f k hk).elim (h.own k) (fun e => Nat.le_trans h.chg.size e), h.chg.trans' ho.chg (fun i hi => .inr (h.own i hi))⟩
theorem DS.same (h : DS w0 sb m F C w) (hc : Chg NoB w w') : DS w0 sb m F C w' := ⟨h.dev.chg0 hc, h.own, h.chg.trans hc⟩
theorem DS.chgF (h : DS w0 sb m F C w) (hd : Disk w' sb m' F C) (hc : Chg F w w') : DS w0 sb m' F C w' := h.step hd ⟨hc, fun _ h => .inl h, fun _ h => .inl h⟩
end

set_option linter.unusedSimpArgs false
set_option maxHeartbeats 4000000 in
set_option maxRecDepth 100000 in
theorem fuse_walk (w : World) (n : Int) (aa : Option Addr) (an ac : Nat) (l : List Dd) (hds : Dds w aa an l) (han : an ≤ 140737488351232) :
    Calls Try.prog 6 #[.slice aa an ac, .int .i64 n] w fun e w' => e = .returned (.bool true) ∧ Chg NoB w w' := by
  obtain ⟨most, hm15, hmost⟩ := and15_i64 n
  go_enter Try.func6, Try.ntmps6
  go_wp2_with fail
  refine (awake_calls _).mono ?_
  rintro e w1 ⟨rfl, hc1⟩
  go_wp2_with fail
  refine (new_disk 5 200 _ (by omega) (by omega) (by omega)).mono ?_
  rintro e w2 ⟨rfl, hD, hc2, -⟩
  have hS : DS w (w1.heap.size + 2) (DM.fresh 5 200) (onlyNew w1.heap.size) NoB w2 := ⟨hD, fun k hk => by have := hc1.size; rcases hk with h | h | h <;> omega, hc1.trans hc2⟩
  generalize onlyNew w1.heap.size = F2 at hS
  generalize w1.heap.size = g0 at hS ⊢
  clear hc1 hc2 hD
  go_wp2_with fail
  refine (hS.dev.fuse most (by omega)).mono ?_
  rintro e w3 ⟨rfl, hD3, hcf⟩
  have hS3 := hS.chgF (m' := (DM.fresh 5 200).setFuse most) hD3 hcf
  have hfi := fuse_start most hm15
  clear hD3 hcf hS
  generalize (DM.fresh 5 200).setFuse (most : Int) = m3 at hS3 hfi
  have HFI := hide hfi; clear hfi
  have HDS := hide hds; clear hds
  go_wp2_with fail
  go_loopw [8, 9] (fun dv v wr => ∃ (i done : Nat) (m : DM) (F C : Nat → Prop), i ≤ an ∧ v = .int .i64 i ∧ dv = .int .i64 done ∧ DS w (g0 + 2) m F C wr ∧ FI m done most) (fun _ v _ => an - (intOf v).toNat)
  case atStart => exact ⟨0, 0, m3, F2, NoB, by omega, rfl, rfl, hS3, HFI.out⟩
  case round =>
    obtain ⟨i, done, m, F, C, hi4, rfl, rfl, hSL, hfi⟩ := hrel
    have HFI2 := hide hfi; clear hfi hS3 HFI
    by_cases hlt : i < an
    · have hlt' : (i : Int) < (an : Int) := by omega
      have hil : i < l.length := by rw [← HDS.out.len]; exact hlt
      obtain ⟨gd, od, rfl, hat⟩ := HDS.out.at_ i l[i] (by simp [hil])
      have HOR : Hid (∀ F C m (w' : World), DS w (g0 + 2) m F C w' → ∀ b, l[i].a = some b → 0 < l[i].k → ¬ F b.block) := fun F C m w' h b hb hp hf => by have := h.own _ hf; have := hat.bs.lt hp b hb; omega
      have hat2 := hat.chg0 hSL.chg
      have c0 := hat2.op
      have c1 := hat2.n
      have c2 := hat2.v
      have HAT := hide hat; clear hat hat2
      generalize l[i] = d at c0 c1 c2 HOR HAT
      clear hil
      by_cases h2 : d.op < 0
      · go_wp2_with fail
        go_roundw
        case rel => exact ⟨i + 1, done, _, F, C, by omega, by go_num, rfl, hSL, HFI2.out⟩
        case measure => simp [intOf]; omega
      · by_cases h6 : 6 < d.op
        · go_wp2_with fail
          go_roundw
          case rel => exact ⟨i + 1, done, _, F, C, by omega, by go_num, rfl, hSL, HFI2.out⟩
          case measure => simp [intOf]; omega
        · go_wp2_with fail
          go_still_tail 16, (by kernel_rfl)
          have hSd := hSL.same (Chg.drew NoB wr)
          have hcn : (m.waiting.length + 1) * 32 ≤ 140737488355328 := by have := HFI2.out.wait; have := HFI2.out.fuse; have := HFI2.out.pos; omega
          have HCN := hide hcn; clear hcn c0 c1 c2 hSL
          go_wp2_with fail
          refine (ask_calls hSd.dev d.op d.n d.a d.k d.c d.b (HAT.out.bs.chg0 hSd.chg) (HOR.out _ _ _ _ hSd) HAT.out.max HCN.out).mono ?_
          rintro e w6 ⟨he, F6, C6, hD6, ho6⟩
          have hS6 := hSd.step hD6 ho6
          have hst := HFI2.out.ask d.op d.n d.b
          clear hD6 ho6 hSd HCN HFI2
          generalize (m.ask d.op d.n d.b) = r at he hS6 hst
          obtain ⟨mr, er⟩ := r
          rcases hst with ⟨h1, _, hlt2, hdd, hf6⟩ | ⟨h1, hlt2, hdd, hf6⟩ | ⟨h0, h9, hdd, hf6⟩
          · simp only at h1 hdd hf6 he hS6
            subst h1 he
            have HOPS := hide hf6.ops
            have HDD := hide hdd
            have HF6 := hide hf6
            clear hf6 hdd
            go_wp2_with fail
            refine (hS6.dev.ops).mono ?_
            rw [HOPS.out]
            rintro e w7 ⟨rfl, rfl⟩
            go_wp2_with fail
            refine (hS6.dev.dead).mono ?_
            rw [HDD.out]
            rintro e w7 ⟨rfl, rfl⟩
            go_wp2_with fail
            go_roundw
            case rel => exact ⟨i + 1, done + 1, mr, F6, C6, by omega, by go_num, by go_num, hS6, HF6.out⟩
            case measure => simp [intOf]; omega
          · simp only at h1 hdd hf6 he hS6
            subst h1 he
            have HOPS := hide hf6.ops
            have HDD := hide hdd
            have HF6 := hide hf6
            clear hf6 hdd
            go_wp2_with fail
            refine (hS6.dev.ops).mono ?_
            rw [HOPS.out]
            rintro e w7 ⟨rfl, rfl⟩
            go_wp2_with fail
            refine (hS6.dev.dead).mono ?_
            rw [HDD.out]
            rintro e w7 ⟨rfl, rfl⟩
            go_wp2_with fail
            go_roundw
            case rel => exact ⟨i + 1, done, mr, F6, C6, by omega, by go_num, by go_num, hS6, HF6.out⟩
            case measure => simp [intOf]; omega
          · simp only at h0 h9 hdd hf6 he hS6
            subst he
            have hle := hf6.fuse
            have hle2 := hf6.pos
            have hle3 : (done : Int) ≤ (most : Int) := by omega
            clear hle hle2
            have e0 : (er == 0) = false := beq_eq_false_iff_ne.2 h0
            have e9 : (er == 9) = false := beq_eq_false_iff_ne.2 h9
            have HOPS := hide hf6.ops
            have HDD := hide hdd
            have HF6 := hide hf6
            clear hf6 hdd h0 h9
            go_wp2_with fail
            refine (hS6.dev.ops).mono ?_
            rw [HOPS.out]
            rintro e w7 ⟨rfl, rfl⟩
            go_wp2_with fail
            refine (hS6.dev.dead).mono ?_
            rw [HDD.out]
            rintro e w7 ⟨rfl, rfl⟩
            go_wp2_with fail
            go_roundw
            case rel => exact ⟨i + 1, done, mr, F6, C6, by omega, by go_num, rfl, hS6, HF6.out⟩
            case measure => simp [intOf]; omega
    · obtain rfl : i = an := by omega
      clear hi4 hlt
      have hle : (done : Int) ≤ (most : Int) := by have := HFI2.out.fuse; have := HFI2.out.pos; omega
      cases hdd : m.dead
      · have HDD := hide hdd; clear hdd
        go_wp2_with fail
        refine (hSL.dev.dead).mono ?_
        rw [HDD.out]
        rintro e w7 ⟨rfl, rfl⟩
        go_wp2_with fail
        go_ret
        exact ⟨rfl, hSL.chg⟩
      · have HDD := hide hdd; clear hdd
        go_wp2_with fail
        refine (hSL.dev.dead).mono ?_
        rw [HDD.out]
        rintro e w7 ⟨rfl, rfl⟩
        go_wp2_with fail
        refine (hSL.dev.fuse (-1) (by omega)).mono ?_
        rintro e w8 ⟨rfl, hD8, hcf⟩
        have hS8 := hSL.chgF hD8 hcf
        obtain ⟨t1, t2, t3, t4, t5, t6, t7, t8, t9, t10⟩ := dead_tells (m.setFuse (-1)) ((setFuse_keeps m (-1)).1.trans HDD.out) ones512
        have hop := (setFuse_keeps m (-1)).2.1.trans HFI2.out.ops
        have hdd := (setFuse_keeps m (-1)).1.trans HDD.out
        have hww := HFI2.out.wait
        rw [← (setFuse_keeps m (-1)).2.2] at hww
        have hdm : done ≤ 15 := by have := HFI2.out.most; omega
        generalize m.setFuse (-1) = m8 at hS8 t1 t2 t3 t4 t5 t6 t7 t8 t9 t10 hop hdd hww
        have HT1 := hide t1; have HT2 := hide t2; have HT3 := hide t3; have HT4 := hide t4; have HT5 := hide t5; have HT6 := hide t6; have HT7 := hide t7; have HT8 := hide t8; have HT9 := hide t9; have HT10 := hide t10
        have HOP := hide hop; have HDE := hide hdd; have HWW := hide hww
        clear t1 t2 t3 t4 t5 t6 t7 t8 t9 t10 hop hdd hww hD8 hcf hSL
        go_wp2_with fail
        refine (hS8.dev.read 0).mono ?_
        rw [HT1.out]
        rintro e w9 (⟨h0, _⟩ | ⟨_, _, rfl, rfl⟩)
        · exact absurd h0 (by decide)
        go_wp2_with fail
        refine (hS8.dev.log).mono ?_
        rw [HT2.out]
        rintro e w9 (⟨h0, _⟩ | ⟨_, _, rfl, rfl⟩)
        · exact absurd h0 (by decide)
        go_wp2_with fail
        refine (hS8.dev.marked).mono ?_
        rw [HT3.out]
        rintro e w9 (⟨h0, _⟩ | ⟨_, _, rfl, rfl⟩)
        · exact absurd h0 (by decide)
        go_wp2_with fail
        refine (hS8.dev.dead).mono ?_
        rw [HDE.out]
        rintro e w9 ⟨rfl, rfl⟩
        go_wp2_with fail
        refine (ones_calls _).mono ?_
        rintro e w9 ⟨rfl, rfl⟩
        go_wp2_with fail
        have hS9 := hS8.same (Chg.alloc NoB w8 (.cells (bcells ones512).toArray 5))
        refine (hS9.dev.write 0 _ _ _ ones512 (BS.newblock _ _ ones512_length.symm) (by have := HWW.out; omega)).mono ?_
        rintro e w10 ⟨he, F10, C10, hD10, ho10⟩
        rw [HT4.out] at he hD10
        subst he
        have hT10 := hS9.step hD10 ho10
        clear hD10 ho10 hS9
        go_wp2_with fail
        have hS10 := hT10
        refine (hS10.dev.sync).mono ?_
        rintro e w11 ⟨he, F11, C11, hD11, ho11⟩
        rw [HT5.out] at he hD11
        subst he
        have hT11 := hS10.step hD11 ho11
        clear hD11 ho11 hS10
        go_wp2_with fail
        have hS11 := hT11
        refine (hS11.dev.append none 0 0 [] (BS.nil' _) (fun _ h => by cases h) (by unfold maxLen; omega)).mono ?_
        rintro e w12 ⟨he, F12, C12, hD12, ho12⟩
        rw [HT6.out] at he hD12
        subst he
        have hT12 := hS11.step hD12 ho12
        clear hD12 ho12 hS11
        go_wp2_with fail
        have hS12 := hT12
        refine (hS12.dev.force).mono ?_
        rintro e w13 ⟨he, F13, C13, hD13, ho13⟩
        rw [HT7.out] at he hD13
        subst he
        have hT13 := hS12.step hD13 ho13
        clear hD13 ho13 hS12
        go_wp2_with fail
        have hS13 := hT13
        refine (hS13.dev.cut 0 none 0 0 [] (BS.nil' _) (fun _ h => by cases h)).mono ?_
        rintro e w14 ⟨he, F14, C14, hD14, ho14⟩
        rw [HT8.out] at he hD14
        subst he
        have hT14 := hS13.step hD14 ho14
        clear hD14 ho14 hS13
        go_wp2_with fail
        have hS14 := hT14
        refine (hS14.dev.trim 0).mono ?_
        rintro e w15 ⟨he, F15, C15, hD15, ho15⟩
        rw [HT9.out] at he hD15
        subst he
        have hT15 := hS14.step hD15 ho15
        clear hD15 ho15 hS14
        go_wp2_with fail
        have hS15 := hT15
        refine (hS15.dev.mark none 0 0 [] (BS.nil' _) (fun _ h => by cases h)).mono ?_
        rintro e w16 ⟨he, F16, C16, hD16, ho16⟩
        rw [HT10.out] at he hD16
        subst he
        have hT16 := hS15.step hD16 ho16
        clear hD16 ho16 hS15
        go_wp2_with fail
        refine (hT16.dev.ops).mono ?_
        rw [HOP.out]
        rintro e w17 ⟨rfl, rfl⟩
        go_wp2_with fail
        go_ret
        exact ⟨rfl, hT16.chg⟩
end Go.Proofs.Ythgejjlhfdegeaa
