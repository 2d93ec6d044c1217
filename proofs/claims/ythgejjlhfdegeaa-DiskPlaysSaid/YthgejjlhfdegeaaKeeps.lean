/- DiskKeeps: the walk. -/
import Derived.Test.YthgejjlhfdegeaaFuse
import Derived.Test.YthgejjlhfdegeaaKeepsP
import Derived.Deep.QuietTactic
import Derived.BigQuiet
namespace Go.Proofs.Ythgejjlhfdegeaa
open Go.RowKit Go.MapKept

theorem BS.take {w : World} {a : Option Addr} {n c : Nat} {l : List UInt8} (h : BS w a n c l) {j : Nat} (hj : j ≤ n) : BS w a j c (l.take j) :=
  ⟨by rw [List.length_take]; have := h.len; omega, Nat.le_trans hj h.cap, h.nil, fun b hb i u hu => h.cell b hb i u (by
    rw [bcells_take, List.getElem?_take] at hu
    split at hu
    · exact hu
    · cases hu)⟩
/-- The row of even bytes as it grows. -/
structure EvRow (w0 wr : World) (F C : Nat → Prop) (a : Option Addr) (i c : Nat) (l : List UInt8) : Prop where
  row : wr.ownsRow 0 5 1 (.slice a i c) i (bcells l)
  far : ∀ b, a = some b → ¬ F b.block ∧ ¬ C b.block ∧ w0.heap.size ≤ b.block
theorem EvRow.step {w0 wr w1 w2 : World} {sb : Nat} {m : DM} {F C : Nat → Prop} {a : Option Addr} {i c : Nat} {l : List UInt8} (h : EvRow w0 wr F C a i c l) (hS : DS w0 sb m F C wr) (hc1 : Chg NoB wr w1)
    (hc : Chg (fun k => ∃ b, a = some b ∧ b.block = k) w1 w2) : DS w0 sb m F C w2 := by
  have hF : ∀ k, (∃ b, a = some b ∧ b.block = k) → ¬ F k ∧ ¬ C k ∧ w0.heap.size ≤ k := by
    rintro k ⟨b, rfl, rfl⟩; exact h.far b rfl
  have h1 := hS.same hc1
  exact ⟨h1.dev.chg hc (fun k hk e => (hF k e).1 hk) (fun k hk e => (hF k e).2.1 hk), h1.own, h1.chg.trans' hc (fun k e => .inr (hF k e).2.2)⟩
theorem EvRow.next {w0 wr w2 : World} {sb : Nat} {m : DM} {F C : Nat → Prop} {a a' : Option Addr} {i c i' c' : Nat} {l l' : List UInt8} (h : EvRow w0 wr F C a i c l) (hS : DS w0 sb m F C wr)
    (hr : w2.ownsRow 0 5 1 (.slice a' i' c') i' (bcells l')) (hat : ∀ b, a' = some b → (∃ b', a = some b' ∧ b'.block = b.block) ∨ wr.heap.size ≤ b.block) : EvRow w0 w2 F C a' i' c' l' := by
  refine ⟨hr, fun b hb => ?_⟩
  rcases hat b hb with ⟨b', hb', he⟩ | hge
  · rw [← he]; exact h.far b' hb'
  · exact ⟨fun f => by have := hS.dev.lt _ f; omega, fun f => by have := hS.dev.ltC _ f; omega, by have := hS.chg.size; omega⟩

set_option linter.unusedSimpArgs false
set_option maxHeartbeats 4000000 in
set_option maxRecDepth 100000 in
theorem keeps_walk (w : World) (aa ba : Option Addr) (an ac bn bc : Nat) (l : List Dd) (b : List UInt8) (hds : Dds w aa an l) (hb : BS w ba bn bc b) (han : an * 40 ≤ 140737488351232) (hbn : bn ≤ 140737488351232) :
    Calls Try.prog 8 #[.slice aa an ac, .slice ba bn bc] w fun e w' => e = .returned (.bool true) ∧ Chg NoB w w' := by
  obtain ⟨iu, hu, hu0, hu1, hu2⟩ := info_parts infoU8
  go_enter Try.func8, Try.ntmps8
  go_wp2_with fail
  refine (awake_calls _).mono ?_
  rintro e w1 ⟨rfl, hc1⟩
  go_wp2_with fail
  refine (new_disk 5 200 _ (by omega) (by omega) (by omega)).mono ?_
  rintro e w2 ⟨rfl, hD, hc2, -⟩
  have hS : DS w (w1.heap.size + 2) (DM.fresh 5 200) (onlyNew w1.heap.size) NoB w2 := ⟨hD, fun k hk => by have := hc1.size; rcases hk with h | h | h <;> omega, hc1.trans hc2⟩
  generalize onlyNew w1.heap.size = F2 at hS
  generalize w1.heap.size = g0 at hS ⊢
  clear hc1 hc2 hD
  have HKI := hide KI.start
  generalize DM.fresh 5 200 = m3 at hS HKI
  have HDS := hide hds; clear hds
  have HB := hide hb; clear hb
  go_wp2_with fail
  go_loopw [7] (fun v wr => ∃ (i : Nat) (m : DM) (F C : Nat → Prop), i ≤ an ∧ v = .int .i64 i ∧ DS w (g0 + 2) m F C wr ∧ KI m i) (fun v _ => an - (intOf v).toNat)
  case atStart => exact ⟨0, m3, F2, NoB, by omega, rfl, hS, HKI.out⟩
  case round =>
    obtain ⟨i, m, F, C, hi4, rfl, hSL, hki⟩ := hrel
    have HKI2 := hide hki; clear hki hS HKI
    by_cases hlt : i < an
    · have hlt' : (i : Int) < (an : Int) := by omega
      have hil : i < l.length := by rw [← HDS.out.len]; exact hlt
      obtain ⟨gd, od, rfl, hat⟩ := HDS.out.at_ i l[i] (by simp [hil])
      have HOR : Hid (∀ F C m (w' : World), DS w (g0 + 2) m F C w' → ∀ b, l[i].a = some b → 0 < l[i].k → ¬ F b.block) := fun F C m w' h b hb hp hf => by have := h.own _ hf; have := hat.bs.lt hp b hb; omega
      have hat2 := hat.chg0 hSL.chg
      have c0 := hat2.op
      have c1 := hat2.n
      have c2 := hat2.v
      have HAT := hide hat; clear hat hat2
      generalize l[i] = d at c0 c1 c2 HOR HAT
      clear hil
      by_cases h2 : 0 ≤ d.op
      · by_cases h6 : d.op ≤ 6
        · go_wp2_with fail
          go_still_tail 16, (by kernel_rfl)
          have hSd := hSL.same (Chg.drew NoB wr)
          have hcn : (m.waiting.length + 1) * 32 ≤ 140737488355328 := by have := HKI2.out.wait; omega
          have HCN := hide hcn; clear hcn
          clear c0 c1 c2 hSL
          go_wp2_with fail
          refine (ask_calls hSd.dev d.op d.n d.a d.k d.c d.b (HAT.out.bs.chg0 hSd.chg) (HOR.out _ _ _ _ hSd) HAT.out.max HCN.out).mono ?_
          rintro e w6 ⟨rfl, F6, C6, hD6, ho6⟩
          have hS6 := hSd.step hD6 ho6
          have HKI3 := hide (HKI2.out.ask d.op d.n d.b)
          clear hD6 ho6 hSd
          go_wp2_with fail
          go_roundw
          case rel => exact ⟨i + 1, _, F6, C6, by omega, by go_num, hS6, HKI3.out⟩
          case measure => simp [intOf]; omega
        · go_wp2_with fail
          go_roundw
          case rel => exact ⟨i + 1, _, F, C, by omega, by go_num, hSL, HKI2.out.succ⟩
          case measure => simp [intOf]; omega
      · go_wp2_with fail
        go_roundw
        case rel => exact ⟨i + 1, _, F, C, by omega, by go_num, hSL, HKI2.out.succ⟩
        case measure => simp [intOf]; omega
    · obtain rfl : i = an := by omega
      clear hi4 hlt
      obtain ⟨f1, f2, f3, f4, f5, f6, f7, f8⟩ := HKI2.out.crash hSL.dev.ok (chAt_evens b)
      have HF1 := hide f1; have HF2 := hide f2; have HF3 := hide f3; have HF4 := hide f4; have HF5 := hide f5; have HF6 := hide f6; have HF7 := hide f7; have HF8 := hide f8
      clear f1 f2 f3 f4 f5 f6 f7 f8 HKI2
      go_wp2_with fail
      obtain ⟨wo, rfl⟩ : ∃ wo : World, wo = wr := ⟨_, rfl⟩
      go_loopw [8, 9] (fun ev v wr => ∃ (j : Nat) (xa : Option Addr) (xc : Nat), j ≤ bn ∧ v = .int .i64 j ∧ ev = .slice xa j xc ∧ EvRow w wr F C xa j xc (evens (b.take j)) ∧ DS w (g0 + 2) m F C wr) (fun _ v _ => bn - (intOf v).toNat)
      case atStart => exact ⟨0, none, 0, by omega, rfl, rfl, ⟨⟨by simp [evens, bcells], .inl ⟨rfl, rfl⟩⟩, fun _ h => by cases h⟩, hSL⟩
      case round =>
        obtain ⟨j, xa, xc, hjb, rfl, rfl, hev, hSR⟩ := hrel
        clear hSL
        by_cases hlt : j < bn
        · have hjl : j < b.length := by rw [← HB.out.len]; exact hlt
          obtain ⟨cb, co, rfl, hcell⟩ := (HB.out.chg0 hSR.chg).form (by omega)
          have c0 := hcell j hlt
          rw [show b.getD j 0 = b[j] by simp [hjl]] at c0
          have HEQ := hide (evens_snoc b j hjl)
          have hand := and254_u8 b[j]
          generalize b[j] = x at c0 HEQ hand
          generalize x.toNat = xn at c0 hand
          generalize hxe : (x &&& 254) = xe at hand HEQ
          clear hcell hxe hjl
          go_wp2_with (first | (at_builtin; refine wpList_app_own rfl (.tmp 73) (.tmp 79) 28 rfl 5 iu (.int .u8 0) 1 1 Try.underlying28 hu hu0 hu1 hu2 rfl (by decide) xa j xc (bcells (evens (b.take j))) rfl (ownsRow_chg hev.row (Chg.alloc NoB wr _) (fun _ _ f => f)) (some ⟨wr.heap.size, 0, none⟩) 1 1 (bcells [xe]) rfl (fun h => by cases h) rfl (new_cells rfl (bcells [xe]) _) (bcells_one _) (by unfold maxLen; omega) (by omega) (Hid.out ?_)))
          refine hide (fun a3 c3 w3 hr3 hc3 hat3 => ?_)
          try go_frame
          rw [← bcells_append, ← HEQ.out] at hr3
          have hev3 := hev.next hSR hr3 (fun b hb => (hat3 b hb).imp id (fun h => by omega))
          have hSR3 := hev.step hSR (Chg.alloc NoB wr _) hc3
          clear hr3 hc3 hat3 HEQ hev hSR
          go_wp2_with fail
          go_roundw
          case rel => exact ⟨j + 1, a3, c3, by omega, by go_num, rfl, hev3, hSR3⟩
          case measure => simp [intOf]; omega
        · obtain rfl : j = bn := by omega
          clear hjb hlt
          have hbe : b.take j = b := List.take_of_length_le (by rw [← HB.out.len]; exact Nat.le_refl _)
          rw [hbe] at hev
          have hE := BS.own hev.row
          clear hev hbe
          go_wp2_with fail
          refine (hSR.dev.crash _ _ _ (evens b) hE (by have := HF8.out; omega)).mono ?_
          rintro e w7 ⟨xb, FX, CX, rfl, hX, hcc, -, -⟩
          have hS7 := hSR.same hcc
          clear hcc hSR hE
          obtain ⟨jl, f5, f5a, f5b⟩ := HF5.out
          have HG5 := hide f5; clear f5 HF5
          generalize m.crash (evens b) = mx at hX HF1 HF2 HF3 HG5 HF7
          have hjt : (m.log.take jl).length = jl := by rw [List.length_take, Nat.min_eq_left f5a]
          have HJT := hide hjt; clear hjt
          go_wp2_with fail
          refine (hX.ops).mono ?_
          rw [HF1.out]
          rintro e w8 ⟨rfl, rfl⟩
          go_wp2_with fail
          refine (hX.dead).mono ?_
          rw [HF2.out]
          rintro e w8 ⟨rfl, rfl⟩
          go_wp2_with fail
          obtain ⟨wq, rfl⟩ : ∃ wq : World, wq = wr := ⟨_, rfl⟩
          go_loopw [11] (fun v wr => ∃ (k : Nat), k ≤ 5 ∧ v = .int .i64 k ∧ Chg NoB w7 wr) (fun v _ => 5 - (intOf v).toNat)
          case atStart => exact ⟨0, by omega, rfl, Chg.refl _ _⟩
          case round =>
            obtain ⟨k, hk5, rfl, hch⟩ := hrel
            have hS8 := hS7.same hch
            have hX8 := hX.chg0 hch
            by_cases hlt : k < 5
            · obtain ⟨p, g1, g2, g3⟩ := HF3.out k hlt
              have HG1 := hide g1; have HG2 := hide g2; have HG3 := hide g3; clear g1 g2 g3
              go_wp2_with fail
              refine (hS8.dev.read k).mono ?_
              rw [HG1.out]
              rintro e w9 (⟨_, rfl, rfl⟩ | ⟨hne, _⟩)
              rotate_left
              · exact absurd rfl hne
              simp only [HG3.out]
              have hP : BS (wr.alloc (.cells (bcells p).toArray 5)) (some ⟨wr.heap.size, 0, none⟩) 512 512 p := BS.newblock wr p HG3.out.symm
              have hcc := Chg.alloc NoB wr (.cells (bcells p).toArray 5)
              generalize wr.alloc (.cells (bcells p).toArray 5) = w9 at hP hcc ⊢
              generalize wr.heap.size = gp at hP ⊢
              have hS9 := hS8.same hcc
              have hX9 := hX8.chg0 hcc
              have hch9 := hch.trans hcc
              clear hcc hS8 hX8 hch
              go_wp2_with fail
              refine (hX9.read k).mono ?_
              rw [HG2.out]
              rintro e w10 (⟨_, rfl, rfl⟩ | ⟨hne, _⟩)
              rotate_left
              · exact absurd rfl hne
              simp only [HG3.out]
              have hQ : BS (w9.alloc (.cells (bcells p).toArray 5)) (some ⟨w9.heap.size, 0, none⟩) 512 512 p := BS.newblock w9 p HG3.out.symm
              have hcc := Chg.alloc NoB w9 (.cells (bcells p).toArray 5)
              generalize w9.alloc (.cells (bcells p).toArray 5) = w10 at hQ hcc ⊢
              generalize w9.heap.size = gq at hQ ⊢
              have hP10 := hP.chg0 hcc
              have hch10 := hch9.trans hcc
              clear hcc hS9 hX9 hch9 hP
              have k1 := conv_str hP10
              have k2 := conv_str hQ
              clear hP10 hQ
              go_wp2_with fail
              go_roundw
              case rel => exact ⟨k + 1, by omega, by go_num, hch10⟩
              case measure => simp [intOf]; omega
            · obtain rfl : k = 5 := by omega
              clear hk5 hlt
              go_wp2_with fail
              refine (hS8.dev.log).mono ?_
              rw [HF4.out]
              rintro e w9 (⟨_, rfl, rfl⟩ | ⟨hne, _⟩)
              rotate_left
              · exact absurd rfl hne
              have hL : BS (wr.alloc (.cells (bcells m.log).toArray 5)) (some ⟨wr.heap.size, 0, none⟩) m.log.length m.log.length m.log := BS.newblock wr m.log rfl
              have hcc := Chg.alloc NoB wr (.cells (bcells m.log).toArray 5)
              generalize wr.alloc (.cells (bcells m.log).toArray 5) = w9 at hL hcc ⊢
              generalize wr.heap.size = gl at hL ⊢
              have hS9 := hS8.same hcc
              have hX9 := hX8.chg0 hcc
              clear hcc hS8 hX8 hch
              go_wp2_with fail
              refine (hX9.log).mono ?_
              rw [HG5.out]
              rintro e w10 (⟨_, rfl, rfl⟩ | ⟨hne, _⟩)
              rotate_left
              · exact absurd rfl hne
              simp only [HJT.out]
              have hM : BS (w9.alloc (.cells (bcells (m.log.take jl)).toArray 5)) (some ⟨w9.heap.size, 0, none⟩) jl jl (m.log.take jl) := BS.newblock w9 _ HJT.out.symm
              have hcc := Chg.alloc NoB w9 (.cells (bcells (m.log.take jl)).toArray 5)
              generalize w9.alloc (.cells (bcells (m.log.take jl)).toArray 5) = w10 at hM hcc ⊢
              generalize w9.heap.size = gm at hM ⊢
              have hS10 := hS9.same hcc
              have hX10 := hX9.chg0 hcc
              have hL10 := hL.chg0 hcc
              clear hcc hS9 hX9 hL
              go_wp2_with fail
              refine (hS10.dev.marked).mono ?_
              rw [HF6.out]
              rintro e w11 (⟨_, rfl, rfl⟩ | ⟨hne, _⟩)
              rotate_left
              · exact absurd rfl hne
              have hA : BS (w10.alloc (.cells (bcells m.mark).toArray 5)) (some ⟨w10.heap.size, 0, none⟩) m.mark.length m.mark.length m.mark := BS.newblock w10 m.mark rfl
              have hcc := Chg.alloc NoB w10 (.cells (bcells m.mark).toArray 5)
              generalize w10.alloc (.cells (bcells m.mark).toArray 5) = w11 at hA hcc ⊢
              generalize w10.heap.size = ga at hA ⊢
              have hS11 := hS10.same hcc
              have hX11 := hX10.chg0 hcc
              have hL11 := hL10.chg0 hcc
              have hM11 := hM.chg0 hcc
              clear hcc hS10 hX10 hL10 hM
              go_wp2_with fail
              refine (hX11.marked).mono ?_
              rw [HF7.out]
              rintro e w12 (⟨_, rfl, rfl⟩ | ⟨hne, _⟩)
              rotate_left
              · exact absurd rfl hne
              have hB : BS (w11.alloc (.cells (bcells m.mark).toArray 5)) (some ⟨w11.heap.size, 0, none⟩) m.mark.length m.mark.length m.mark := BS.newblock w11 m.mark rfl
              have hcc := Chg.alloc NoB w11 (.cells (bcells m.mark).toArray 5)
              generalize w11.alloc (.cells (bcells m.mark).toArray 5) = w12 at hB hcc ⊢
              generalize w11.heap.size = gb at hB ⊢
              have hS12 := hS11.same hcc
              have hL12 := hL11.chg0 hcc
              have hM12 := hM11.chg0 hcc
              have hA12 := hA.chg0 hcc
              clear hcc hS11 hX11 hL11 hM11 hA
              go_wp2_with fail
              have hT := hL12.take f5a
              have k1 := fun n => conv_str (hT.drewN n)
              have k2 := fun n => conv_str (hM12.drewN n)
              have k3 := fun n => conv_str (hA12.drewN n)
              have k4 := fun n => conv_str (hB.drewN n)
              have hcert : ∀ n, Calls Try.prog 24 #[.pointer (some ⟨g0 + 2, 0, none⟩)] (w12.drewN n) (fun e w' => e = .returned (.int .i64 m.certain) ∧ w' = w12.drewN n) := fun n =>
                ((hS12.dev.chg0 (Chg.drewN _ _ n)).certain).mono fun e w' ⟨he, hw⟩ => ⟨he, hw.symm⟩
              have HCERT := hide hcert
              have HS12 := hide hS12
              clear hcert hS12 hL12 hM12 hA12 hB hT
              have j1 : (jl : Int) ≤ (m.log.length : Int) := by omega
              have j2 : (m.certain : Int) ≤ (jl : Int) := by omega
              have j3 : (0 : Int) ≤ (jl : Int) := by omega
              generalize m.log.length = la at k1 j1 f5a ⊢
              generalize m.certain = ce at HCERT j2 f5b ⊢
              generalize m.mark.length = lm at k3 k4 ⊢
              go_quiet ((go_at_call 24; refine Calls.quiet_of_same (HCERT.out _)))
              clear k1 k2 k3 k4
              go_wp2_with fail
              go_ret
              exact ⟨rfl, HS12.out.chg.trans (Chg.drewN _ _ _)⟩
end Go.Proofs.Ythgejjlhfdegeaa
