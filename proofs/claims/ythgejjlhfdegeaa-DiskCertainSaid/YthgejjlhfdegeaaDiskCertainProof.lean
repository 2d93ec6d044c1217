/- DiskCertain: the row, proved. The frame began as the print of the kit's own proof-skeleton program. -/
import Derived.Test.YthgejjlhfdegeaaRows
import Derived.WalkKit
import Derived.ProofKit
import Derived.OpenShut
import Derived.ShutString
import Derived.ChangeOld
import Derived.Below
import Derived.Test.YthgejjlhfdegeaaArg
import Derived.Test.YthgejjlhfdegeaaCert
namespace Go.Proofs.Ythgejjlhfdegeaa.diskCertain
open Go.ChangeShapes Go.WideShapes Go.ChangeAt Go.RowKit
open Go.ChangeMaps (open_string shut_string)
set_option linter.unusedVariables false

theorem own : ownKnob Try.prog.godebug = none := by kernel_rfl
theorem laidOut : laidOutB Try.prog = true := by kernel_rfl

set_option maxRecDepth 100000 in
theorem lifted (os : Os) (started : os.Started) (H : Type) (enc : TypeId × Value → H) :
    ReturnsInHanded {} Try.checked os 5 .any (Rows.diskCertainSpec.pre6 enc Try.prog Try.f5 Rows.diskCertainRow.domain false) (Rows.diskCertainSpec.post enc Try.prog Try.f5 false true false false) := by
  refine returnsInHanded_of_change_sized (C := Try.checked) own started (by kernel_rfl) Try.func5
    (ChangeSpec.witness6 (enc := enc) (C := Try.checked) false ⟨#[], #[.int .i64 0, .slice none 0 0, .slice none 0 0, .slice none 0 0, .slice none 0 0, .int .i64 0], []⟩ 8 (by kernel_rfl) (by kernel_rfl) (by kernel_rfl) (by kernel_rfl)) ?_
  intro W base args ds gs before hval0 hW hcnd hsz0 _
  have hsz : (DataW.weightsEach Try.prog (Try.f5.params.toList ++ Rows.diskCertainSpec.plain.varTypes Try.prog) (ds ++ gs)).all (· ≤ reachBytes) = true := hsz0
  clear hsz0
  have hval : ∀ (j : Nat) t v, Try.f5.params[j]? = some t → args[j]? = some v → Value.okWide Try.prog W .any base t v := hval0
  have hW' := hW
  obtain ⟨p, q, hA0, hV, rfl, hfz, hnd⟩ := hW
  have hA : DataW.TrodAll enc Try.prog W 0 (fun _ => true) true Try.f5.params.toList args.toList ds p := hA0
  rw [Try.params5] at hA hval hsz
  obtain ⟨v0, vs0, d0, ds0, p0, q0, hargs, rfl, rfl, h0, r0⟩ := trodAll_cons hA
  obtain ⟨v1, vs1, d1, ds1, p1, q1, rfl, rfl, rfl, h1, r1⟩ := trodAll_cons r0
  obtain ⟨v2, vs2, d2, ds2, p2, q2, rfl, rfl, rfl, h2, r2⟩ := trodAll_cons r1
  obtain ⟨v3, vs3, d3, ds3, p3, q3, rfl, rfl, rfl, h3, r3⟩ := trodAll_cons r2
  obtain ⟨v4, vs4, d4, ds4, p4, q4, rfl, rfl, rfl, h4, r4⟩ := trodAll_cons r3
  obtain ⟨v5, vs5, d5, ds5, p5, q5, rfl, rfl, rfl, h5, r5⟩ := trodAll_cons r4
  obtain ⟨rfl, rfl, rfl⟩ := trodAll_nil r5
  obtain rfl : args = #[v0, v1, v2, v3, v4, v5] := by cases args; simp_all
  obtain ⟨rfl, rfl⟩ := trodVars_none hV
  obtain ⟨a0, rfl, rfl, rfl, w0⟩ := open_int Try.underlying3 (hval 0 3 v0 rfl rfl) h0
  obtain ⟨a1, len1, cap1, rfl⟩ := okWide_slice Try.underlying28 (hval 1 28 v1 rfl rfl)
  have k1 := h1
  have lt1 : ∀ x ∈ p1, x.block < W.heap.size := by obtain ⟨m, hm⟩ := k1; exact DataW.trod_lt m _ _ _ hm
  obtain ⟨l1, b1, e1⟩ := bs_of_arg Try.underlying28 Try.underlying5 (by kernel_rfl) (hval 1 28 _ rfl rfl) h1
  have rb1 : cap1 ≤ 140737488351232 := by
    rcases e1 with ⟨_, rfl⟩ | ⟨es, sp, hd, hl⟩
    · omega
    · have := sized_slice hsz (j := 1) (t := 28) (e := 5) rfl (by rw [← hd]; rfl) Try.underlying28
      rw [show Try.prog.bytesOf 5 = 1 by kernel_rfl, hl] at this
      have h2 : reachBytes = 140737488351232 := rfl
      omega
  obtain ⟨a2, len2, cap2, rfl⟩ := okWide_slice Try.underlying28 (hval 2 28 v2 rfl rfl)
  have k2 := h2
  have lt2 : ∀ x ∈ p2, x.block < W.heap.size := by obtain ⟨m, hm⟩ := k2; exact DataW.trod_lt m _ _ _ hm
  obtain ⟨l2, b2, e2⟩ := bs_of_arg Try.underlying28 Try.underlying5 (by kernel_rfl) (hval 2 28 _ rfl rfl) h2
  have rb2 : cap2 ≤ 140737488351232 := by
    rcases e2 with ⟨_, rfl⟩ | ⟨es, sp, hd, hl⟩
    · omega
    · have := sized_slice hsz (j := 2) (t := 28) (e := 5) rfl (by rw [← hd]; rfl) Try.underlying28
      rw [show Try.prog.bytesOf 5 = 1 by kernel_rfl, hl] at this
      have h2 : reachBytes = 140737488351232 := rfl
      omega
  obtain ⟨a3, len3, cap3, rfl⟩ := okWide_slice Try.underlying28 (hval 3 28 v3 rfl rfl)
  have k3 := h3
  have lt3 : ∀ x ∈ p3, x.block < W.heap.size := by obtain ⟨m, hm⟩ := k3; exact DataW.trod_lt m _ _ _ hm
  obtain ⟨l3, b3, e3⟩ := bs_of_arg Try.underlying28 Try.underlying5 (by kernel_rfl) (hval 3 28 _ rfl rfl) h3
  have rb3 : cap3 ≤ 140737488351232 := by
    rcases e3 with ⟨_, rfl⟩ | ⟨es, sp, hd, hl⟩
    · omega
    · have := sized_slice hsz (j := 3) (t := 28) (e := 5) rfl (by rw [← hd]; rfl) Try.underlying28
      rw [show Try.prog.bytesOf 5 = 1 by kernel_rfl, hl] at this
      have h2 : reachBytes = 140737488351232 := rfl
      omega
  obtain ⟨a4, len4, cap4, rfl⟩ := okWide_slice Try.underlying28 (hval 4 28 v4 rfl rfl)
  have k4 := h4
  have lt4 : ∀ x ∈ p4, x.block < W.heap.size := by obtain ⟨m, hm⟩ := k4; exact DataW.trod_lt m _ _ _ hm
  obtain ⟨l4, b4, e4⟩ := bs_of_arg Try.underlying28 Try.underlying5 (by kernel_rfl) (hval 4 28 _ rfl rfl) h4
  have rb4 : cap4 ≤ 140737488351232 := by
    rcases e4 with ⟨_, rfl⟩ | ⟨es, sp, hd, hl⟩
    · omega
    · have := sized_slice hsz (j := 4) (t := 28) (e := 5) rfl (by rw [← hd]; rfl) Try.underlying28
      rw [show Try.prog.bytesOf 5 = 1 by kernel_rfl, hl] at this
      have h2 : reachBytes = 140737488351232 := rfl
      omega
  obtain ⟨a5, rfl, rfl, rfl, w5⟩ := open_int Try.underlying3 (hval 5 3 v5 rfl rfl) h5
  clear hA0 hval0
  refine (cert_walk W a0 a5 a1 a2 a3 a4 len1 cap1 len2 cap2 len3 cap3 len4 cap4 l1 l2 l3 l4 b1 b2 b3 b4 (Nat.le_trans b1.cap rb1) (Nat.le_trans b2.cap rb2) (Nat.le_trans b3.cap rb3)).mono fun e W' ⟨he, chg⟩ => ?_
  have bel : Below W.heap.size W W' := chg.below (fun _ h => h.elim) (Nat.le_refl _)
  subst he
  exact ⟨_, rfl, _, _, _, [], _, [], hW', trodAll_mk1 (shut_bool Try.underlying4 _), (trodAll_cons_mk (shut_int Try.underlying3 w0) (trodAll_cons_mk (Below.trod laidOut (by kernel_rfl) (of_decide_eq_true (by kernel_rfl)) k1 bel lt1) (trodAll_cons_mk (Below.trod laidOut (by kernel_rfl) (of_decide_eq_true (by kernel_rfl)) k2 bel lt2) (trodAll_cons_mk (Below.trod laidOut (by kernel_rfl) (of_decide_eq_true (by kernel_rfl)) k3 bel lt3) (trodAll_cons_mk (Below.trod laidOut (by kernel_rfl) (of_decide_eq_true (by kernel_rfl)) k4 bel lt4) (trodAll_cons_mk (shut_int Try.underlying3 w5) trodAll_mk0)))))), rfl, bel.frame _, fun h => by cases h⟩

theorem over : Rows.diskCertainRow.holds Try.pinned (OpenSpec.ofChange Rows.diskCertainSpec) :=
  OpenClaim.holds_of_wide 5 Try.f5 rfl rfl rfl rfl rfl rfl rfl ⟨rfl, rfl, rfl, rfl, rfl⟩ rfl rfl rfl rfl rfl (by kernel_rfl) Try.func5 (by kernel_rfl)
    (of_decide_eq_true (by kernel_rfl)) (by unfold Func.isWrapper; first | (rw [if_pos (by decide +kernel)]; kernel_rfl) | (rw [if_neg (by decide +kernel)]; exact ⟨rfl, rfl⟩))
    (fun os started H enc _ => lifted os started H enc)

/-- ████ THE STATEMENT ████ -/
theorem proved : Rows.DiskCertainSaid := over
end Go.Proofs.Ythgejjlhfdegeaa.diskCertain
