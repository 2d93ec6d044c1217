/- looks: a device and the reference's tell the same. -/
import Derived.Test.YthgejjlhfdegeaaRefC
import Derived.Test.YthgejjlhfdegeaaRefD
import Derived.Test.YthgejjlhfdegeaaHeld
import Derived.Deep.QuietTactic
import Derived.BigQuiet
namespace Go.Proofs.Ythgejjlhfdegeaa
open Go.RowKit Go.MapKept
set_option linter.unusedSimpArgs false

theorem exec_ldR {a : Act} {o : Oper} {w : World} (x : Operand) (ho : o.op = .load 52 x) (g : Nat) (hx : a.eval x = .pointer (some ⟨g, 0, none⟩)) (cs : Array Value) (hg : w.heap[g]? = some (.cells cs 52 (0, 0))) (hs : cs.size = 13) :
    (execOp a.eval o).run Try.prog w = .ok (.value (.agg cs)) w := by
  unfold execOp
  simp only [ho, hx, Instr.loadAt, Instr.sureAddr, Sem.run_bind, Sem.run_pure, Result.andThen_ok, run_loadVar_row w g _ _ cs _ _ hg Try.underlying52 rfl (by rw [hs]; exact infoRf)]

set_option maxHeartbeats 4000000 in
set_option maxRecDepth 100000 in
theorem looks_calls {w : World} {sb : Nat} {G F C : Nat → Prop} {m : DM} {L : RL} (hD : Disk w sb m F C) (hR : RefAt w G m L) (hwl : m.waiting.length ≤ 4611686018427387904) :
    Calls Try.prog 34 #[.pointer (some ⟨sb, 0, none⟩), .agg (rcells m L)] w fun e w' => e = .returned (.bool true) ∧ Chg NoB w w' := by
  have hok := hD.ok
  have hbl : m.base.length ≤ 65536 := hok.pages.2
  have HOK := hide hok; clear hok
  have hc0 := Chg.alloc NoB w (.cells (rcells m L) 52)
  have hB := heap_alloc_new w (.cells (rcells m L) 52)
  have hD1 := hD.chg0 hc0
  have hR1 := hR.chg0 hc0
  generalize hw1 : w.alloc (.cells (rcells m L) 52) = w1 at hc0 hB hD1 hR1
  have HW1 := hide hw1; clear hw1 hD hR
  have c0 : ∀ n, (w1.drewN n).cell? ⟨w.heap.size, 0, none⟩ = some (.slice L.ba m.base.length L.bc) := fun n => by rw [cell_of_row (w1.drewN n) _ _ _ _ _ hB]; rfl
  have c2 : ∀ n, (w1.drewN n).cell? ⟨w.heap.size, 2, none⟩ = some (.int .i64 m.room) := fun n => by rw [cell_of_row (w1.drewN n) _ _ _ _ _ hB]; rfl
  have c4 : ∀ n, (w1.drewN n).cell? ⟨w.heap.size, 4, none⟩ = some (.int .i64 m.certain) := fun n => by rw [cell_of_row (w1.drewN n) _ _ _ _ _ hB]; rfl
  have c7 : ∀ n, (w1.drewN n).cell? ⟨w.heap.size, 7, none⟩ = some (.int .i64 m.ops) := fun n => by rw [cell_of_row (w1.drewN n) _ _ _ _ _ hB]; rfl
  have c8 : ∀ n, (w1.drewN n).cell? ⟨w.heap.size, 8, none⟩ = some (.bool m.dead) := fun n => by rw [cell_of_row (w1.drewN n) _ _ _ _ _ hB]; rfl
  have HB := hide hB; clear hB
  have q1 := hide (fun n => ((hD1.chg0 (Chg.drewN NoB w1 n)).pages).mono (R' := fun e w' => e = .returned (.int .i64 m.base.length) ∧ w' = w1.drewN n) fun e w' ⟨he, hw⟩ => ⟨he, hw.symm⟩)
  have q2 := hide (fun n => ((hD1.chg0 (Chg.drewN NoB w1 n)).room).mono (R' := fun e w' => e = .returned (.int .i64 m.room) ∧ w' = w1.drewN n) fun e w' ⟨he, hw⟩ => ⟨he, hw.symm⟩)
  have q3 := hide (fun n => ((hD1.chg0 (Chg.drewN NoB w1 n)).ops).mono (R' := fun e w' => e = .returned (.int .i64 m.ops) ∧ w' = w1.drewN n) fun e w' ⟨he, hw⟩ => ⟨he, hw.symm⟩)
  have q4 := hide (fun n => ((hD1.chg0 (Chg.drewN NoB w1 n)).dead).mono (R' := fun e w' => e = .returned (.bool m.dead) ∧ w' = w1.drewN n) fun e w' ⟨he, hw⟩ => ⟨he, hw.symm⟩)
  have q5 := hide (fun n => ((hD1.chg0 (Chg.drewN NoB w1 n)).certain).mono (R' := fun e w' => e = .returned (.int .i64 m.certain) ∧ w' = w1.drewN n) fun e w' ⟨he, hw⟩ => ⟨he, hw.symm⟩)
  go_enter Try.func34, Try.ntmps34
  go_wp2_with fail
  rw [HW1.out]
  cases hd : m.dead
  · rw [hd] at c8 q4
    have HDD := hide hd; clear hd
    go_quiet ((first | (go_at_call 29; refine Calls.quiet_of_same (q1.out _)) | (go_at_call 30; refine Calls.quiet_of_same (q2.out _)) | (go_at_call 26; refine Calls.quiet_of_same (q3.out _)) | (go_at_call 20; refine Calls.quiet_of_same (q4.out _)) | (go_at_call 24; refine Calls.quiet_of_same (q5.out _))))
    have hcn := Chg.drewN NoB w1 nq
    have hD2 := hD1.chg0 hcn
    have hR2 := hR1.chg0 hcn
    have hB2 := hcn.blk HB.out (fun f => f)
    have hc2 := hc0.trans hcn
    clear c0 c2 c4 c7 c8 q1 q2 q3 q4 q5 HB hD1 hR1 hc0 hcn HW1
    generalize w1.drewN nq = w2 at hD2 hR2 hB2 hc2 ⊢
    have hlr : m.logR = (m.log, 0) := by simp [DM.logR, HDD.out]
    have hmr : m.markR = (m.mark, 0) := by simp [DM.markR, HDD.out]
    have HLR := hide hlr; have HMR := hide hmr; clear hlr hmr
    go_wp2_with fail
    refine (hD2.log).mono ?_
    rw [HLR.out]
    rintro e w3 (⟨_, rfl, rfl⟩ | ⟨hne, _⟩)
    rotate_left
    · exact absurd rfl hne
    have hP : BS (w2.alloc (.cells (bcells m.log).toArray 5)) (some ⟨w2.heap.size, 0, none⟩) m.log.length m.log.length m.log := BS.newblock w2 m.log rfl
    have hcc := Chg.alloc NoB w2 (.cells (bcells m.log).toArray 5)
    generalize w2.alloc (.cells (bcells m.log).toArray 5) = w3 at hP hcc ⊢
    generalize w2.heap.size = gl at hP ⊢
    have hD3 := hD2.chg0 hcc
    have hR3 := hR2.chg0 hcc
    have hB3 := hcc.blk hB2 (fun f => f)
    have hc3 := hc2.trans hcc
    clear hcc hD2 hR2 hB2 hc2
    have HB3 := hide hB3; clear hB3
    go_wp2_with fail
    refine (hD3.marked).mono ?_
    rw [HMR.out]
    rintro e w4 (⟨_, rfl, rfl⟩ | ⟨hne, _⟩)
    rotate_left
    · exact absurd rfl hne
    have hQ : BS (w3.alloc (.cells (bcells m.mark).toArray 5)) (some ⟨w3.heap.size, 0, none⟩) m.mark.length m.mark.length m.mark := BS.newblock w3 m.mark rfl
    have hcc := Chg.alloc NoB w3 (.cells (bcells m.mark).toArray 5)
    generalize w3.alloc (.cells (bcells m.mark).toArray 5) = w4 at hQ hcc ⊢
    generalize w3.heap.size = gm at hQ ⊢
    have hD4 := hD3.chg0 hcc
    have hR4 := hR3.chg0 hcc
    have hB4 := hcc.blk HB3.out (fun f => f)
    have hP4 := hP.chg0 hcc
    have hc4 := hc3.trans hcc
    clear hcc hD3 hR3 HB3 hc3 hP
    have d0 : w4.cell? ⟨w.heap.size, 0, none⟩ = some (.slice L.ba m.base.length L.bc) := by rw [cell_of_row w4 _ _ _ _ _ hB4]; rfl
    have d3 : w4.cell? ⟨w.heap.size, 3, none⟩ = some (.slice L.la m.log.length L.lc) := by rw [cell_of_row w4 _ _ _ _ _ hB4]; rfl
    have d5 : w4.cell? ⟨w.heap.size, 5, none⟩ = some (.slice L.ma m.mark.length L.mc) := by rw [cell_of_row w4 _ _ _ _ _ hB4]; rfl
    have d8 : w4.cell? ⟨w.heap.size, 8, none⟩ = some (.bool m.dead) := by rw [cell_of_row w4 _ _ _ _ _ hB4]; rfl
    rw [HDD.out] at d8
    have k1 := conv_str hP4
    have k2 := conv_str hQ
    have k3 := conv_str hR4.log
    have k4 := conv_str hR4.mark
    have HB4 := hide hB4
    clear hP4 hQ hB4
    go_wp2_with fail
    clear k1 k2 k3 k4 d3 d5 d8 d0
    go_loopw [11] (fun v wr => ∃ (i : Nat), i ≤ m.base.length ∧ v = .int .i64 i ∧ Chg NoB w4 wr) (fun v _ => m.base.length - (intOf v).toNat)
    case atStart => exact ⟨0, by omega, rfl, Chg.refl _ _⟩
    case round =>
      obtain ⟨i, hi, rfl, hch⟩ := hrel
      have hB5 := hch.blk HB4.out (fun f => f)
      have d0 : wr.cell? ⟨w.heap.size, 0, none⟩ = some (.slice L.ba m.base.length L.bc) := by rw [cell_of_row wr _ _ _ _ _ hB5]; rfl
      have HB5 := hide hB5; clear hB5
      by_cases hlt : i < m.base.length
      · have hlt' : (i : Int) < (m.base.length : Int) := by omega
        by_cases h64 : i < 64
        · have h64' : (i : Int) < 64 := by omega
          have hrd : m.read i = (m.page i, 0) := by simp [DM.read, HDD.out, DM.has]; omega
          have HRD := hide hrd; clear hrd
          have hD5 := hD4.chg0 hch
          have hpl : (m.page i).length = 512 := HOK.out.page_len hlt
          have HPL := hide hpl; clear hpl
          go_wp2_with fail
          refine (hD5.read i).mono ?_
          rw [HRD.out]
          rintro e w8 (⟨_, rfl, rfl⟩ | ⟨hne, _⟩)
          rotate_left
          · exact absurd rfl hne
          simp only [HPL.out]
          have hP : BS (wr.alloc (.cells (bcells (m.page i)).toArray 5)) (some ⟨wr.heap.size, 0, none⟩) 512 512 (m.page i) := BS.newblock wr _ HPL.out.symm
          have hcc := Chg.alloc NoB wr (.cells (bcells (m.page i)).toArray 5)
          generalize wr.alloc (.cells (bcells (m.page i)).toArray 5) = w9 at hP hcc ⊢
          generalize wr.heap.size = gp at hP ⊢
          have hch9 := hch.trans hcc
          have HPG := hide (fun w' (hc : Chg NoB w9 w') => page_calls ((hR4.chg0 hch9).chg0 hc) i hlt hwl HOK.out.page (fun r hr => (HOK.out.wait r hr).2))
          have HKEEP := hide (fun w' (hc : Chg NoB w9 w') => And.intro (hc.blk (hcc.blk HB5.out (fun f => f)) (fun f => f)) (conv_str (hP.chg0 hc)))
          clear hP hcc hD5 hch HB5 d0
          go_wp2_with fail
          refine AnyM.region (S := fun w' : World => w'.heap[w.heap.size]? = some (.cells (rcells m L) 52 (0, 0)) ∧ (convert 28 9 (.slice (some ⟨gp, 0, none⟩) 512 512)).run Try.prog w' = .ok (.string (strOf (m.page i))) w') (late := fun _ => false) (by kernel_rfl) ?_
          have hHeld : (fun w' : World => w'.heap[w.heap.size]? = some (.cells (rcells m L) 52 (0, 0)) ∧ (convert 28 9 (.slice (some ⟨gp, 0, none⟩) 512 512)).run Try.prog w' = .ok (.string (strOf (m.page i))) w') _ := HKEEP.out _ (Chg.drew _ _)
          refine AnyM.take (i := 0) (v := ?v0) rfl (by kernel_rfl) (by kernel_rfl) rfl (by kernel_rfl) (by kernel_rfl) (fun _ _ _ h => h) (Or.inl ⟨by rfl, ?y0⟩) hHeld ?r0
          case y0 => (intro w hSw; (try dsimp only at hSw); obtain ⟨hS1, hS2⟩ := hSw; go_simp; try with_reducible rfl)
          try simp only [Act.put, List.setIfInBounds_toArray, List.set_cons_zero, List.set_cons_succ, List.getElem_cons_zero, List.getElem_cons_succ, List.getElem_toArray]
          refine AnyM.take (i := 1) (v := ?v1) rfl (by kernel_rfl) (by kernel_rfl) rfl (by kernel_rfl) (by kernel_rfl) (fun _ _ _ h => h) (Or.inl ⟨by rfl, ?y1⟩) hHeld ?r1
          case y1 => (intro w hSw; (try dsimp only at hSw); obtain ⟨hS1, hS2⟩ := hSw; go_simp; try with_reducible rfl)
          try simp only [Act.put, List.setIfInBounds_toArray, List.set_cons_zero, List.set_cons_succ, List.getElem_cons_zero, List.getElem_cons_succ, List.getElem_toArray]
          refine AnyM.take (i := 2) (v := ?v2) rfl (by kernel_rfl) (by kernel_rfl) rfl (by kernel_rfl) (by kernel_rfl) (fun _ _ _ h => h) (Or.inl ⟨by rfl, ?y2⟩) hHeld ?r2
          case y2 => (intro w hSw; (try dsimp only at hSw); obtain ⟨hS1, hS2⟩ := hSw; go_simp; try with_reducible rfl)
          try simp only [Act.put, List.setIfInBounds_toArray, List.set_cons_zero, List.set_cons_succ, List.getElem_cons_zero, List.getElem_cons_succ, List.getElem_toArray]
          refine AnyM.take (i := 3) (v := ?v3) rfl (by kernel_rfl) (by kernel_rfl) rfl (by kernel_rfl) (by kernel_rfl) (fun _ _ _ h => h) (Or.inl ⟨by rfl, ?y3⟩) hHeld ?r3
          case y3 => (intro w hSw; (try dsimp only at hSw); obtain ⟨hS1, hS2⟩ := hSw; go_simp; try with_reducible rfl)
          try simp only [Act.put, List.setIfInBounds_toArray, List.set_cons_zero, List.set_cons_succ, List.getElem_cons_zero, List.getElem_cons_succ, List.getElem_toArray]
          refine AnyM.take (i := 4) (v := ?v4) rfl (by kernel_rfl) (by kernel_rfl) rfl (by kernel_rfl) (by kernel_rfl) (fun _ _ _ h => h) (Or.inl ⟨by rfl, ?y4⟩) hHeld ?r4
          case y4 => (intro w hSw; (try dsimp only at hSw); obtain ⟨hS1, hS2⟩ := hSw; go_simp; try with_reducible rfl)
          try simp only [Act.put, List.setIfInBounds_toArray, List.set_cons_zero, List.set_cons_succ, List.getElem_cons_zero, List.getElem_cons_succ, List.getElem_toArray]
          refine AnyM.take (i := 5) (v := ?v5) rfl (by kernel_rfl) (by kernel_rfl) rfl (by kernel_rfl) (by kernel_rfl) (fun _ _ _ h => h) (Or.inl ⟨by rfl, ?y5⟩) hHeld ?r5
          case y5 => (intro w hSw; obtain ⟨hS1, hS2⟩ := hSw; refine @exec_ldR _ _ _ (.tmp 3) ?_ _ ?_ _ hS1 rfl <;> rfl)
          try simp only [Act.put, List.setIfInBounds_toArray, List.set_cons_zero, List.set_cons_succ, List.getElem_cons_zero, List.getElem_cons_succ, List.getElem_toArray]
          refine AnyM.take (i := 6) (v := ?v6) rfl (by kernel_rfl) (by kernel_rfl) rfl (by kernel_rfl) (by kernel_rfl) (fun _ _ _ h => h) (Or.inl ⟨by rfl, ?y6⟩) hHeld ?r6
          case y6 => (intro w hSw; (try dsimp only at hSw); obtain ⟨hS1, hS2⟩ := hSw; go_simp; try with_reducible rfl)
          try simp only [Act.put, List.setIfInBounds_toArray, List.set_cons_zero, List.set_cons_succ, List.getElem_cons_zero, List.getElem_cons_succ, List.getElem_toArray]
          refine AnyM.step (i := 7) (by kernel_rfl) rfl rfl (fun K hK => ?_)
          go_simp
          refine (HPG.out _ (Chg.drew NoB _)).mono ?_
          rintro e w10 ⟨a3, c3, rfl, h2, h3, h4⟩
          have h3' := (Chg.drew NoB w9).trans h3
          rw [HPL.out] at h2 ⊢
          have k3 := conv_str (BS.own h2)
          clear hHeld
          refine hK.out _ _ (by first | exact HKEEP.out _ (Chg.drew _ _) | exact HKEEP.out _ h3') (fun hHeld => ?_)
          clear hK K
          try simp only [Act.put, List.setIfInBounds_toArray, List.set_cons_zero, List.set_cons_succ, List.getElem_cons_zero, List.getElem_cons_succ, List.getElem_toArray]
          refine AnyM.step (i := 8) (by kernel_rfl) rfl rfl (fun K hK => ?_)
          go_simp
          clear hHeld
          refine hK.out _ _ (by first | exact HKEEP.out _ (Chg.drew _ _) | exact HKEEP.out _ h3') (fun hHeld => ?_)
          clear hK K
          try simp only [Act.put, List.setIfInBounds_toArray, List.set_cons_zero, List.set_cons_succ, List.getElem_cons_zero, List.getElem_cons_succ, List.getElem_toArray]
          refine AnyM.take (i := 9) (v := ?v9) rfl (by kernel_rfl) (by kernel_rfl) rfl (by kernel_rfl) (by kernel_rfl) (fun _ _ _ h => h) (Or.inl ⟨by rfl, ?y9⟩) hHeld ?r9
          case y9 => (intro w hSw; (try dsimp only at hSw); obtain ⟨hS1, hS2⟩ := hSw; go_simp; try with_reducible rfl)
          try simp only [Act.put, List.setIfInBounds_toArray, List.set_cons_zero, List.set_cons_succ, List.getElem_cons_zero, List.getElem_cons_succ, List.getElem_toArray]
          refine AnyM.take (i := 10) (v := ?v10) rfl (by kernel_rfl) (by kernel_rfl) rfl (by kernel_rfl) (by kernel_rfl) (fun _ _ _ h => h) (Or.inl ⟨by rfl, ?y10⟩) hHeld ?r10
          case y10 => (intro w hSw; (try dsimp only at hSw); obtain ⟨hS1, hS2⟩ := hSw; go_simp; try with_reducible rfl)
          try simp only [Act.put, List.setIfInBounds_toArray, List.set_cons_zero, List.set_cons_succ, List.getElem_cons_zero, List.getElem_cons_succ, List.getElem_toArray]
          refine AnyM.done (by kernel_rfl) ?_ _
          have hch10 := hch9.trans h3'
          clear k3 hHeld HKEEP HPG h4 h2 h3 h3'
          go_wp2_with fail
          go_roundw
          case rel => exact ⟨i + 1, by omega, by go_num, hch10⟩
          case measure => simp [intOf]; omega
        · have h64' : ¬ (i : Int) < 64 := by omega
          go_wp2_with fail
          go_ret
          exact ⟨rfl, hc4.trans hch⟩
      · have hlt' : ¬ (i : Int) < (m.base.length : Int) := by omega
        go_wp2_with fail
        go_ret
        exact ⟨rfl, hc4.trans hch⟩
  · rw [hd] at c8 q4
    have HDD := hide hd; clear hd
    go_quiet ((first | (go_at_call 29; refine Calls.quiet_of_same (q1.out _)) | (go_at_call 30; refine Calls.quiet_of_same (q2.out _)) | (go_at_call 26; refine Calls.quiet_of_same (q3.out _)) | (go_at_call 20; refine Calls.quiet_of_same (q4.out _)) | (go_at_call 24; refine Calls.quiet_of_same (q5.out _))))
    have hcn := Chg.drewN NoB w1 nq
    have hD2 := hD1.chg0 hcn
    have hR2 := hR1.chg0 hcn
    have hB2 := hcn.blk HB.out (fun f => f)
    have hc2 := hc0.trans hcn
    clear c0 c2 c4 c7 c8 q1 q2 q3 q4 q5 HB hD1 hR1 hc0 hcn HW1
    generalize w1.drewN nq = w2 at hD2 hR2 hB2 hc2 ⊢
    have hlr : m.logR = ([], 9) := by simp [DM.logR, HDD.out]
    have hmr : m.markR = ([], 9) := by simp [DM.markR, HDD.out]
    have HLR := hide hlr; have HMR := hide hmr; clear hlr hmr
    have hrr : m.read 0 = ([], 9) := by simp [DM.read, HDD.out]
    have HRR := hide hrr; clear hrr
    have d8 : w2.cell? ⟨w.heap.size, 8, none⟩ = some (.bool m.dead) := by rw [cell_of_row w2 _ _ _ _ _ hB2]; rfl
    rw [HDD.out] at d8
    have HB2 := hide hB2; clear hB2
    go_wp2_with fail
    refine (hD2.log).mono ?_
    rw [HLR.out]
    rintro e w3 (⟨h0, _⟩ | ⟨_, _, rfl, rfl⟩)
    · exact absurd h0 (by decide)
    go_wp2_with fail
    refine (hD2.marked).mono ?_
    rw [HMR.out]
    rintro e w3 (⟨h0, _⟩ | ⟨_, _, rfl, rfl⟩)
    · exact absurd h0 (by decide)
    go_wp2_with fail
    refine (hD2.read 0).mono ?_
    rw [HRR.out]
    rintro e w3 (⟨h0, _⟩ | ⟨_, _, rfl, rfl⟩)
    · exact absurd h0 (by decide)
    go_wp2_with fail
    refine (zero_calls none 0 w2 9).mono ?_
    rintro e w3 ⟨rfl, rfl⟩
    go_wp2_with fail
    refine (zero_calls none 0 w2 9).mono ?_
    rintro e w3 ⟨rfl, rfl⟩
    go_wp2_with fail
    go_ret
    exact ⟨by simp, hc2⟩
end Go.Proofs.Ythgejjlhfdegeaa
