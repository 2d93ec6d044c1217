/- What Ask calls: the closure, IndexFunc, Insert. -/
import Derived.Test.YtjnbbmchmkiodaaLkC
import Derived.Test.YtjnbbmchmkiodaaHeld
namespace Go.Proofs.Ytjnbbmchmkiodaa
open Go.RowKit Go.MapKept

section
variable {P : Program} {ops : Array Oper} {Q : Exit → Act → World → Prop} {o : Oper} {a : Act} {w : World} {κ : Type} {enc : κ → Value} {d : TypeDesc} {f : κ → Option Value}
theorem step_look1 {K0 : Act → World → Prop} {E0 : Prop} (hg : o.guard = none) (m k : Operand) (T : TypeId) (hop : o.op = Op.lookup T m k false) (K E : TypeId) (z : Value)
    (hT : P.underlying T = some (.map K E)) (hK : P.underlying K = some d) (hkey : ∀ k, IsKey d (enc k)) (hz : ∀ w : World, (zeroValue E).run P w = .ok z w)
    (b : Nat) (hm : a.eval m = .map (some b)) (M : MapAt w b d enc f) (x : κ) (hx : a.eval k = enc x) (v : Value) (hv : (f x).getD z = v)
    (hK' : K0 (a.put o.dst v) w) : if Region.wanted o (yielded ops a.tmps) = true then Oper.wp P o a w K0 Q else E0 := by
  have hw : Region.wanted o (yielded ops a.tmps) = true := by simp [Region.wanted, hg]
  rw [if_pos hw]
  have hrun := run_look (P := P) M hT (by assumption) hkey hz x false
  unfold Oper.wp
  simp only [execOp, hop, hm, hx, Sem.run_bind, Sem.run_pure, hrun, Result.andThen, hv]
  exact hK'
end

set_option linter.unusedSimpArgs false
set_option maxRecDepth 100000 in
theorem idle_calls {w : World} {L : PlL} {p : PlM} (h : PlAt w L p) (tc : Nat) (hc : w.cell? ⟨tc, 0, none⟩ = some (.pointer (some ⟨L.pb, 0, none⟩))) (ow md : Int) :
    Calls Try.prog 32 #[.agg #[.int .u64 ow, .int .i64 md], .pointer (some ⟨tc, 0, none⟩)] w fun e w' => e = .returned (.bool ((p.held ow).getD 0 == 0)) ∧ Chg NoB w w' := by
  have c0 : w.cell? ⟨L.pb, 0, none⟩ = some (.map (some L.hb)) := by rw [cell_of_row w _ _ _ _ _ h.blk]; rfl
  have hM := h.held
  have hl : (heldF p ow).getD (.int .i64 0) = .int .i64 ((p.held ow).getD 0) := by unfold heldF; cases p.held ow <;> rfl
  have hs0 : (w.alloc (.cells #[.int .u64 ow, .int .i64 md] 77)).drew.cell? ⟨w.heap.size, 0, none⟩ = some (.int .u64 ow) := by go_simp
  have hcc : Chg NoB w (w.alloc (.cells #[.int .u64 ow, .int .i64 md] 77)).drew := (Chg.alloc _ _ _).trans (Chg.drew _ _)
  have hb1 := heap_lt h.blk
  have HSS : Hid ((fun w' : World => w'.cell? ⟨tc, 0, none⟩ = some (.pointer (some ⟨L.pb, 0, none⟩)) ∧ w'.cell? ⟨L.pb, 0, none⟩ = some (.map (some L.hb)) ∧ w'.cell? ⟨w.heap.size, 0, none⟩ = some (.int .u64 ow) ∧ MapAt w' L.hb (.int .u64) encU (heldF p)) (w.alloc (.cells #[.int .u64 ow, .int .i64 md] 77)).drew) := hide ⟨(hcc.cell (cell_some hc).1 (fun f => f)).trans hc, (hcc.cell hb1 (fun f => f)).trans c0, hs0, hM.chg hcc (fun f => f)⟩
  have HCC := hide hcc
  clear hs0 hcc hb1
  have HL := hide hl; clear hM hl h c0 hc
  go_enter Try.func32, Try.ntmps32
  go_wp2_with fail
  refine AnyM.region (S := fun w' : World => w'.cell? ⟨tc, 0, none⟩ = some (.pointer (some ⟨L.pb, 0, none⟩)) ∧ w'.cell? ⟨L.pb, 0, none⟩ = some (.map (some L.hb)) ∧ w'.cell? ⟨w.heap.size, 0, none⟩ = some (.int .u64 ow) ∧ MapAt w' L.hb (.int .u64) encU (heldF p)) (late := fun _ => false) (by kernel_rfl) ?_
  have hHeld : (fun w' : World => w'.cell? ⟨tc, 0, none⟩ = some (.pointer (some ⟨L.pb, 0, none⟩)) ∧ w'.cell? ⟨L.pb, 0, none⟩ = some (.map (some L.hb)) ∧ w'.cell? ⟨w.heap.size, 0, none⟩ = some (.int .u64 ow) ∧ MapAt w' L.hb (.int .u64) encU (heldF p)) _ := HSS.out
  refine AnyM.take (i := 0) (v := ?v0) rfl (by kernel_rfl) (by kernel_rfl) rfl (by kernel_rfl) (by kernel_rfl) (fun _ _ _ h => h) (Or.inl ⟨by rfl, ?y0⟩) hHeld ?r0
  case y0 => (intro w hSw; (try dsimp only at hSw); obtain ⟨q1, q2, q3, q4⟩ := hSw; go_simp; try with_reducible rfl)
  try simp only [Act.put, List.setIfInBounds_toArray, List.set_cons_zero, List.set_cons_succ, List.getElem_cons_zero, List.getElem_cons_succ, List.getElem_toArray]
  refine AnyM.take (i := 1) (v := ?v1) rfl (by kernel_rfl) (by kernel_rfl) rfl (by kernel_rfl) (by kernel_rfl) (fun _ _ _ h => h) (Or.inl ⟨by rfl, ?y1⟩) hHeld ?r1
  case y1 => (intro w hSw; (try dsimp only at hSw); obtain ⟨q1, q2, q3, q4⟩ := hSw; go_simp; try with_reducible rfl)
  try simp only [Act.put, List.setIfInBounds_toArray, List.set_cons_zero, List.set_cons_succ, List.getElem_cons_zero, List.getElem_cons_succ, List.getElem_toArray]
  refine AnyM.take (i := 2) (v := ?v2) rfl (by kernel_rfl) (by kernel_rfl) rfl (by kernel_rfl) (by kernel_rfl) (fun _ _ _ h => h) (Or.inl ⟨by rfl, ?y2⟩) hHeld ?r2
  case y2 => (intro w hSw; (try dsimp only at hSw); obtain ⟨q1, q2, q3, q4⟩ := hSw; go_simp; try with_reducible rfl)
  try simp only [Act.put, List.setIfInBounds_toArray, List.set_cons_zero, List.set_cons_succ, List.getElem_cons_zero, List.getElem_cons_succ, List.getElem_toArray]
  refine AnyM.take (i := 3) (v := ?v3) rfl (by kernel_rfl) (by kernel_rfl) rfl (by kernel_rfl) (by kernel_rfl) (fun _ _ _ h => h) (Or.inl ⟨by rfl, ?y3⟩) hHeld ?r3
  case y3 => (intro w hSw; (try dsimp only at hSw); obtain ⟨q1, q2, q3, q4⟩ := hSw; go_simp; try with_reducible rfl)
  try simp only [Act.put, List.setIfInBounds_toArray, List.set_cons_zero, List.set_cons_succ, List.getElem_cons_zero, List.getElem_cons_succ, List.getElem_toArray]
  refine AnyM.take (i := 4) (v := ?v4) rfl (by kernel_rfl) (by kernel_rfl) rfl (by kernel_rfl) (by kernel_rfl) (fun _ _ _ h => h) (Or.inl ⟨by rfl, ?y4⟩) hHeld ?r4
  case y4 => (intro w hSw; (try dsimp only at hSw); obtain ⟨q1, q2, q3, q4⟩ := hSw; go_simp; try with_reducible rfl)
  try simp only [Act.put, List.setIfInBounds_toArray, List.set_cons_zero, List.set_cons_succ, List.getElem_cons_zero, List.getElem_cons_succ, List.getElem_toArray]
  refine AnyM.take (i := 5) (v := ?v5) rfl (by kernel_rfl) (by kernel_rfl) rfl (by kernel_rfl) (by kernel_rfl) (fun _ _ _ h => h) (Or.inl ⟨by rfl, ?y5⟩) hHeld ?r5
  case y5 => (intro w hSw; (try dsimp only at hSw); obtain ⟨q1, q2, q3, q4⟩ := hSw; go_simp; try with_reducible rfl)
  try simp only [Act.put, List.setIfInBounds_toArray, List.set_cons_zero, List.set_cons_succ, List.getElem_cons_zero, List.getElem_cons_succ, List.getElem_toArray]
  refine AnyM.step (i := 6) (by kernel_rfl) rfl rfl (fun K hK => ?_)
  refine step_look1 rfl (.tmp 7) (.tmp 9) 68 rfl 29 3 (.int .i64 0) Try.underlying68 Try.underlying29 encU_key zeroInt L.hb rfl HSS.out.2.2.2 ow rfl _ HL.out ?_
  clear hHeld
  refine hK.out _ _ (by first | exact HSS.out) (fun hHeld => ?_)
  clear hK K
  try simp only [Act.put, List.setIfInBounds_toArray, List.set_cons_zero, List.set_cons_succ, List.getElem_cons_zero, List.getElem_cons_succ, List.getElem_toArray]
  refine AnyM.take (i := 7) (v := ?v7) rfl (by kernel_rfl) (by kernel_rfl) rfl (by kernel_rfl) (by kernel_rfl) (fun _ _ _ h => h) (Or.inl ⟨by rfl, ?y7⟩) hHeld ?r7
  case y7 => (intro w hSw; (try dsimp only at hSw); obtain ⟨q1, q2, q3, q4⟩ := hSw; go_simp; try with_reducible rfl)
  try simp only [Act.put, List.setIfInBounds_toArray, List.set_cons_zero, List.set_cons_succ, List.getElem_cons_zero, List.getElem_cons_succ, List.getElem_toArray]
  refine AnyM.take (i := 8) (v := ?v8) rfl (by kernel_rfl) (by kernel_rfl) rfl (by kernel_rfl) (by kernel_rfl) (fun _ _ _ h => h) (Or.inl ⟨by rfl, ?y8⟩) hHeld ?r8
  case y8 => (intro w hSw; (try dsimp only at hSw); obtain ⟨q1, q2, q3, q4⟩ := hSw; go_simp; try with_reducible rfl)
  try simp only [Act.put, List.setIfInBounds_toArray, List.set_cons_zero, List.set_cons_succ, List.getElem_cons_zero, List.getElem_cons_succ, List.getElem_toArray]
  refine AnyM.done (by kernel_rfl) ?_ _
  go_wp2_with fail
  go_ret
  exact ⟨rfl, HCC.out⟩

def idleB (p : PlM) (x : Int × Int) : Bool := (p.held x.1).getD 0 == 0
def idxP (p : PlM) : Int := match p.queue.findIdx? (idleB p) with | some i => (i : Int) | none => -1
theorem idxP_at {p : PlM} {i : Nat} {x : Int × Int} (hx : p.queue[i]? = some x) (hb : idleB p x = true) (hall : ∀ j, j < i → ∀ y, p.queue[j]? = some y → idleB p y = false) : idxP p = i := by
  have hi : i < p.queue.length := (List.getElem?_eq_some_iff.1 hx).1
  have : p.queue.findIdx? (idleB p) = some i := by
    rw [List.findIdx?_eq_some_iff_getElem]
    refine ⟨hi, ?_, fun j hj => ?_⟩
    · rw [List.getElem?_eq_getElem hi] at hx; cases hx; exact hb
    · have := hall j hj _ (List.getElem?_eq_getElem (by omega))
      simp [this]
  simp [idxP, this]
theorem idxP_none {p : PlM} (hall : ∀ j, j < p.queue.length → ∀ y, p.queue[j]? = some y → idleB p y = false) : idxP p = -1 := by
  have : p.queue.findIdx? (idleB p) = none := by
    rw [List.findIdx?_eq_none_iff]
    intro x hx
    obtain ⟨j, hj, rfl⟩ := List.getElem_of_mem hx
    exact hall j hj _ (List.getElem?_eq_getElem hj)
  simp [idxP, this]

theorem QAt.cells {w : World} {a : Option Addr} {n c : Nat} {q : List (Int × Int)} (h : QAt w a n c q) {j : Nat} {x : Int × Int} (hx : q[j]? = some x) :
    ∃ g off, a = some ⟨g, off, none⟩ ∧ w.cell? ⟨g, off + j * 2, none⟩ = some (.int .u64 x.1) ∧ w.cell? ⟨g, off + j * 2 + 1, none⟩ = some (.int .i64 x.2) := by
  have hj : j < q.length := (List.getElem?_eq_some_iff.1 hx).1
  cases ha : a with
  | none => have := h.nil ha; have := h.cap; have := h.len; omega
  | some b =>
    obtain ⟨cur, hsp, hbk, hsz, hcell⟩ := h.blk b ha
    obtain ⟨g, off, sp⟩ := b
    simp only at hsp hbk hsz hcell
    subst hsp
    have hq := qcells_at hx
    refine ⟨g, off, rfl, ?_, ?_⟩
    · rw [cell_of_row w _ _ _ _ _ hbk]; exact hcell _ _ hq.1
    · rw [cell_of_row w _ _ _ _ _ hbk]; exact hcell _ _ hq.2

set_option maxHeartbeats 1000000 in
set_option maxRecDepth 100000 in
theorem idx_calls {w : World} {L : PlL} {p : PlM} (h : PlAt w L p) (tc : Nat) (hc : w.cell? ⟨tc, 0, none⟩ = some (.pointer (some ⟨L.pb, 0, none⟩))) (hn : p.queue.length ≤ 5000000000000) :
    Calls Try.prog 31 #[.slice L.qa p.queue.length L.qc, .func (.func 32) #[] #[.pointer (some ⟨tc, 0, none⟩)]] w fun e w' => e = .returned (.int .i64 (idxP p)) ∧ Chg NoB w w' := by
  have HP := hide h
  have HC := hide hc
  clear h hc
  go_enter Try.func31, Try.ntmps31
  go_wp2_with fail
  go_loopw [8] (fun v wr => ∃ i : Nat, i ≤ p.queue.length ∧ v = .int .i64 i ∧ Chg NoB w wr ∧ ∀ j, j < i → ∀ y, p.queue[j]? = some y → idleB p y = false) (fun v _ => p.queue.length - (intOf v).toNat)
  case atStart => exact ⟨0, by omega, rfl, Chg.refl _ _, fun j hj => absurd hj (Nat.not_lt_zero _)⟩
  case round =>
    obtain ⟨i, hi, rfl, hch, hall⟩ := hrel
    have HALL := hide hall; clear hall
    by_cases hlt : i < p.queue.length
    · have hx : p.queue[i]? = some p.queue[i] := List.getElem?_eq_getElem hlt
      have hP := HP.out.chg hch (fun f => f) (fun f => f) (fun _ _ f => f)
      have hcl := hch.cell (cell_some HC.out).1 (fun f => f) |>.trans HC.out
      obtain ⟨g, off, hqa, c1, c2⟩ := hP.queue.cells hx
      rw [hqa]
      have HPr := hide hP; have HX := hide hx; have HCL := hide hcl
      generalize p.queue[i] = x at *
      obtain ⟨ow, md⟩ := x
      simp only at c1 c2
      clear hP hx hcl hqa
      have hlt' : (i : Int) < (p.queue.length : Int) := by omega
      go_wp2_with fail
      refine (idle_calls HPr.out tc HCL.out ow md).mono ?_
      rw [show ((p.held ow).getD 0 == 0) = idleB p (ow, md) from rfl]
      rintro e w2 ⟨rfl, hc2⟩
      cases hb : idleB p (ow, md)
      · have hall2 : ∀ j, j < i + 1 → ∀ y, p.queue[j]? = some y → idleB p y = false := by
          intro j hj y hy
          rcases Nat.lt_or_ge j i with h | h
          · exact HALL.out j h y hy
          · obtain rfl : j = i := by omega
            rw [HX.out] at hy; cases hy; exact hb
        have HA2 := hide hall2; clear hall2 hb
        go_wp2_with fail
        go_roundw
        case rel => exact ⟨i + 1, by omega, by go_num, hch.trans hc2, HA2.out⟩
        case measure => simp [intOf]; omega
      · have hI := idxP_at HX.out hb HALL.out
        have HI := hide hI; clear hI hb
        go_wp2_with fail
        go_ret
        rw [HI.out]
        exact ⟨rfl, hch.trans hc2⟩
    · obtain rfl : i = p.queue.length := by omega
      have hN := idxP_none (fun j hj y hy => HALL.out j hj y hy)
      have HN := hide hN; clear hN
      have hlt' : ¬ (p.queue.length : Int) < (p.queue.length : Int) := by omega
      go_wp2_with fail
      go_ret
      rw [HN.out]
      exact ⟨rfl, hch⟩

/-- Insert behind all. -/
theorem ins_calls {w : World} {qa : Option Addr} {n c : Nat} {q : List (Int × Int)} (hQ : QAt w qa n c q) (hn : n ≤ 5000000000000) (ad : Addr) (xc : Nat) (ow md : Int) (hc : ∀ j u, [Value.int .u64 ow, .int .i64 md][j]? = some u → w.cell? (ad.add j) = some u) :
    Calls Try.prog 33 #[.slice qa n c, .int .i64 n, .slice (some ad) 1 xc] w fun e w' => ∃ a' c', e = .returned (.slice a' (n + 1) c') ∧ QAt w' a' (n + 1) c' (q ++ [(ow, md)]) ∧ Chg (fun k => ∃ b, qa = some b ∧ b.block = k) w w' ∧ (∀ b, a' = some b → (∃ b0, qa = some b0 ∧ b0.block = b.block) ∨ w.heap.size ≤ b.block) := by
  have hcap := hQ.cap
  have HQ := hide hQ; have HC := hide hc; clear hQ hc
  have h1 : (n : Int) ≤ (n : Int) := Int.le_refl _
  have h2 : (0 : Int) ≤ (n : Int) := by omega
  have h3 : (n : Int) ≤ (c : Int) := by omega
  go_enter Try.func33, Try.ntmps33
  go_wp2_with (at_builtin; refine wpList_app_q rfl (.tmp 23) (.tmp 24) rfl qa n c q rfl HQ.out ad xc ow md rfl HC.out (by omega) (Hid.out ?_))
  all_goals (refine hide (fun a' c' w' hq hch hb => ?_); have HX := hide hq; clear hq; go_wp2_with fail; go_ret; exact ⟨a', c', rfl, HX.out, hch, hb⟩)
end Go.Proofs.Ytjnbbmchmkiodaa
