/- LockKnown: the states that the examples come to. -/
import Derived.Test.YtjnbbmchmkiodaaLkX2
namespace Go.Proofs.Ytjnbbmchmkiodaa
open Go.RowKit Go.MapKept

set_option linter.unusedSimpArgs false
theorem wait_pl (m : TM) (s : ByteArray) (p : PlM) (o md : Int) : (m.wait s p o md).pl s = some { p with queue := insQ p.queue (p.at o) (o, md) } := by simp [TM.wait, TM.addWait, TM.setQ]
theorem wait_pl_other (m : TM) (s x : ByteArray) (p : PlM) (o md : Int) (hx : x ≠ s) : (m.wait s p o md).pl x = m.pl x := by simp [TM.wait, TM.addWait, TM.setQ, hx]
theorem wait_waits (m : TM) (s : ByteArray) (p : PlM) (o md u : Int) : (m.wait s p o md).waits u = if u = o then some (s, md) else m.waits u := by simp [TM.wait, TM.addWait, TM.setQ]
theorem wait_names (m : TM) (s : ByteArray) (p : PlM) (o md : Int) : (m.wait s p o md).names = m.names := rfl
theorem hold_pl_other (m : TM) (s x : ByteArray) (p : PlM) (o md : Int) (hx : x ≠ s) : (m.hold s p o md).pl x = m.pl x := by simp [TM.hold, hx]

/-! the first table -/
def awC : PlM := ⟨awB.held, [(1, 4)]⟩
def awD : PlM := ⟨awB.held, [(1, 4), (3, 1)]⟩
noncomputable def kt3 : TM := aw2.wait sA awB 1 4
noncomputable def kt4 : TM := kt3.wait sA awC 3 1
theorem kt3_ask : askM aw2 1 sA 4 = (10, kt3) := by
  have h1 : isM 4 = true := by decide
  have h2 : aw2.waits 1 = none := rfl
  have h4 : awB.held 1 = some 3 := rfl
  have hj : joinI 3 4 = 4 := by decide
  have h6 : ¬ goesP awB 1 4 := fun h => by
    have := h 2 3 rfl (by decide)
    revert this; decide
  simp [askM, h1, h2, aw2_pl, askTail, h4, hj, h6, kt3]
theorem kt3_pl : kt3.pl sA = some awC := by
  rw [kt3, wait_pl]; rfl
theorem kt4_ask : askM kt3 3 sA 1 = (10, kt4) := by
  have h1 : isM 1 = true := by decide
  have h2 : kt3.waits 3 = none := by rw [kt3, wait_waits]; rfl
  have h4 : awC.held 3 = none := rfl
  have h5 : awC.queue ≠ [] := by simp [awC]
  simp [askM, h1, h2, kt3_pl, askTail, h4, h5, kt4]
theorem kt4_pl : kt4.pl sA = some awD := by
  rw [kt4, wait_pl]; rfl
theorem kt4_other (x : ByteArray) (hx : x ≠ sA) : kt4.pl x = none := by
  rw [kt4, wait_pl_other _ _ _ _ _ _ hx, kt3, wait_pl_other _ _ _ _ _ _ hx, aw2, hold_pl_other _ _ _ _ _ _ hx, aw1, hold_pl_other _ _ _ _ _ _ hx]
  simp [TM.newPlace, TM.empty, hx]
theorem kt4_names (o : Int) (ho : o = 1 ∨ o = 2) : ∃ f, kt4.names o = some f ∧ ∀ x, f x = true ↔ x = sA := by
  rw [kt4, wait_names, kt3, wait_names]
  rcases ho with rfl | rfl
  · exact ⟨_, by simp [aw2, aw1, TM.hold, TM.newPlace, TM.empty]; rfl, fun x => by simp⟩
  · exact ⟨_, by simp [aw2, aw1, TM.hold, TM.newPlace, TM.empty]; rfl, fun x => by simp⟩
theorem kt4_touched (x : ByteArray) : kt4.touched 2 x = true ↔ x = sA := by
  obtain ⟨f, h1, h2⟩ := kt4_names 2 (.inr rfl)
  have h3 : kt4.waits 2 = none := by rw [kt4, wait_waits, kt3, wait_waits]; rfl
  simp [TM.touched, TM.namesOf, h1, h2, h3]
theorem kt4_sum (ns : List ByteArray) (hn : ns.Nodup) : (ns.map (qlen kt4)).sum ≤ 5000000000000 :=
  Nat.le_trans (sum_single (qlen kt4) sA (fun x hx => by simp [qlen, kt4_other x hx]) ns hn) (by simp [qlen, kt4_pl, awD])
theorem dropAt_names (o : Int) (m : TM) (s : ByteArray) : (dropAt o m s).names = m.names := by
  unfold dropAt
  cases m.pl s <;> rfl
theorem kt5_free : (freeM kt4 2 [sA]).2 = [1] ∧ (∃ p, (freeM kt4 2 [sA]).1.pl sA = some p ∧ p.held 1 = some 4) ∧ ∃ f, (freeM kt4 2 [sA]).1.names 1 = some f ∧ ∀ x, f x = true ↔ x = sA := by
  have hd : dropAt 2 ((kt4.delNames 2).delWait 2) sA = ((kt4.delNames 2).delWait 2).setPl sA (awD.out 2) := by
    unfold dropAt
    have : ((kt4.delNames 2).delWait 2).pl sA = some awD := kt4_pl
    rw [this]
  have hp1 : (dropAt 2 ((kt4.delNames 2).delWait 2) sA).pl sA = some (awD.out 2) := by rw [hd]; exact TM.setPl_at _ _ _
  have hq : (awD.out 2).queue = [(1, 4), (3, 1)] := by decide
  have hg : goesP (awD.out 2) 1 4 := fun u md hu hne => by
    by_cases h2 : u = 2
    · subst h2; simp [PlM.out, PlM.drop] at hu
    · simp [PlM.out, PlM.drop, awD, awB, h2, hne] at hu
  have hng : ¬ goesP { awD.out 2 with queue := [(3, 1)], held := fun i => if i = 1 then some 4 else (awD.out 2).held i } 3 1 := fun h => by
    have := h 1 4 (by simp) (by decide)
    revert this; decide
  have hs : serve sA (awD.out 2).queue (dropAt 2 ((kt4.delNames 2).delWait 2) sA) = (((((dropAt 2 ((kt4.delNames 2).delWait 2) sA).setPl sA { awD.out 2 with queue := [(3, 1)] }).hold sA { awD.out 2 with queue := [(3, 1)] } 1 4)).delWait 1, [1]) := by
    rw [hq, serve_cons sA _ hp1 1 4 [(3, 1)] hg, serve_stop sA _ (served_pl sA _ (awD.out 2) 1 4 [(3, 1)]) 3 1 [] hng]
  have hsp := served_pl sA (dropAt 2 ((kt4.delNames 2).delWait 2) sA) (awD.out 2) 1 4 [(3, 1)]
  have hf : freeM kt4 2 [sA] = (((((dropAt 2 ((kt4.delNames 2).delWait 2) sA).setPl sA { awD.out 2 with queue := [(3, 1)] }).hold sA { awD.out 2 with queue := [(3, 1)] } 1 4)).delWait 1, [1]) := by
    simp only [freeM, List.foldl_cons, List.foldl_nil, serveAt, hp1, hs, List.nil_append]
    unfold tidyAt
    rw [hsp]
    simp
  rw [hf]
  refine ⟨rfl, ⟨_, hsp, by simp⟩, ?_⟩
  obtain ⟨f, h1, h2⟩ := kt4_names 1 (.inl rfl)
  have hn : (dropAt 2 ((kt4.delNames 2).delWait 2) sA).names 1 = some f := by
    rw [dropAt_names]
    show (if (1 : Int) = 2 then none else kt4.names 1) = some f
    rw [if_neg (by decide)]; exact h1
  refine ⟨fun x => decide (x = sA) || f x, ?_, fun x => ?_⟩
  · show some (fun x => decide (x = sA) || ((dropAt 2 ((kt4.delNames 2).delWait 2) sA).names 1).getD (fun _ => false) x) = _
    rw [hn]; rfl
  · simp [h2]

/-! the second table -/
def sB : ByteArray := ⟨#[98]⟩
def sC : ByteArray := ⟨#[99]⟩
theorem bc_ne : sC ≠ sB := by decide
def pB1 : PlM := ⟨fun i => if i = 1 then some 4 else none, []⟩
def pB2 : PlM := ⟨fun i => if i = 1 then some 4 else none, [(2, 3)]⟩
def pC1 : PlM := ⟨fun i => if i = 2 then some 4 else none, []⟩
def pC2 : PlM := ⟨fun i => if i = 2 then some 4 else none, [(1, 3)]⟩
noncomputable def ku1 : TM := (TM.empty.newPlace sB).hold sB PlM.empty 1 4
noncomputable def ku2 : TM := (ku1.newPlace sC).hold sC PlM.empty 2 4
noncomputable def ku3 : TM := ku2.wait sB pB1 2 3
noncomputable def ku4 : TM := ku3.wait sC pC1 1 3
theorem ku1_ask : askM TM.empty 1 sB 4 = (0, ku1) := by
  have h1 : isM 4 = true := by decide
  have h2 : TM.empty.waits 1 = none := rfl
  have h3 : TM.empty.pl sB = none := rfl
  simp [askM, h1, h2, h3, askTail_empty, ku1]
theorem ku1_pl (x : ByteArray) : ku1.pl x = if x = sB then some pB1 else none := by
  by_cases hx : x = sB
  · subst hx; rw [if_pos rfl, ku1, hold_pl]; rfl
  · rw [if_neg hx, ku1, hold_pl_other _ _ _ _ _ _ hx]; simp [TM.newPlace, TM.empty, hx]
theorem ku2_ask : askM ku1 2 sC 4 = (0, ku2) := by
  have h1 : isM 4 = true := by decide
  have h2 : ku1.waits 2 = none := rfl
  have h3 : ku1.pl sC = none := by rw [ku1_pl, if_neg bc_ne]
  simp [askM, h1, h2, h3, askTail_empty, ku2]
theorem ku2_pl (x : ByteArray) : ku2.pl x = if x = sC then some pC1 else if x = sB then some pB1 else none := by
  by_cases hx : x = sC
  · subst hx; rw [if_pos rfl, ku2, hold_pl]; rfl
  · rw [if_neg hx, ku2, hold_pl_other _ _ _ _ _ _ hx]; simp only [TM.newPlace, if_neg hx]; exact ku1_pl x
theorem ku2_waits (u : Int) : ku2.waits u = none := rfl
theorem ku3_ask : askM ku2 2 sB 3 = (10, ku3) := by
  have h1 : isM 3 = true := by decide
  have h3 : ku2.pl sB = some pB1 := by rw [ku2_pl, if_neg bc_ne.symm, if_pos rfl]
  have h4 : pB1.held 2 = none := rfl
  have h6 : ¬ goesP pB1 2 3 := fun h => by
    have := h 1 4 rfl (by decide)
    revert this; decide
  simp [askM, h1, ku2_waits, h3, askTail, h4, h6, ku3]
theorem ku3_pl (x : ByteArray) : ku3.pl x = if x = sC then some pC1 else if x = sB then some pB2 else none := by
  by_cases hx : x = sB
  · subst hx; rw [ku3, wait_pl, if_neg bc_ne.symm, if_pos rfl]; rfl
  · rw [ku3, wait_pl_other _ _ _ _ _ _ hx, ku2_pl]; simp [hx]
theorem ku3_waits (u : Int) : ku3.waits u = if u = 2 then some (sB, 3) else none := by rw [ku3, wait_waits]; rfl
theorem ku4_ask : askM ku3 1 sC 3 = (10, ku4) := by
  have h1 : isM 3 = true := by decide
  have h2 : ku3.waits 1 = none := by rw [ku3_waits]; rfl
  have h3 : ku3.pl sC = some pC1 := by rw [ku3_pl, if_pos rfl]
  have h4 : pC1.held 1 = none := rfl
  have h6 : ¬ goesP pC1 1 3 := fun h => by
    have := h 2 4 rfl (by decide)
    revert this; decide
  simp [askM, h1, h2, h3, askTail, h4, h6, ku4]
theorem ku4_pl (x : ByteArray) : ku4.pl x = if x = sC then some pC2 else if x = sB then some pB2 else none := by
  by_cases hx : x = sC
  · subst hx; rw [ku4, wait_pl, if_pos rfl]; rfl
  · rw [ku4, wait_pl_other _ _ _ _ _ _ hx, ku3_pl]; simp [hx]
theorem ku4_waits (u : Int) : ku4.waits u = if u = 1 then some (sC, 3) else if u = 2 then some (sB, 3) else none := by rw [ku4, wait_waits, ku3_waits]
theorem ku3_known : Known ku3 [1, 2] := by
  refine ⟨fun x gr h => ?_, by simp⟩
  rw [ku3_waits] at h
  split at h
  · cases h
    refine ⟨pB2, by rw [ku3_pl, if_neg bc_ne.symm, if_pos rfl], by simp [pB2], fun u hu => ?_, fun y hy => ?_⟩
    · simp only [pB2] at hu
      split at hu
      · rename_i h; simp [h]
      · simp at hu
    · simp [pB2] at hy; subst hy; simp
  · cases h
theorem ku4_known : Known ku4 [1, 2] := by
  refine ⟨fun x gr h => ?_, by simp⟩
  rw [ku4_waits] at h
  split at h
  · cases h
    refine ⟨pC2, by rw [ku4_pl, if_pos rfl], by simp [pC2], fun u hu => ?_, fun y hy => ?_⟩
    · simp only [pC2] at hu
      split at hu
      · rename_i h; simp [h]
      · simp at hu
    · simp [pC2] at hy; subst hy; simp
  · split at h
    · cases h
      refine ⟨pB2, by rw [ku4_pl, if_neg bc_ne.symm, if_pos rfl], by simp [pB2], fun u hu => ?_, fun y hy => ?_⟩
      · simp only [pB2] at hu
        split at hu
        · rename_i h; simp [h]
        · simp at hu
      · simp [pB2] at hy; subst hy; simp
    · cases h
theorem ku3_blk {x u : Int} (h : blk ku3 x u) : x = 2 ∧ u = 1 := by
  obtain ⟨gr, p, h1, h2, h3⟩ := h
  rw [ku3_waits] at h1
  split at h1
  · rename_i hx
    subst hx
    cases h1
    rw [ku3_pl, if_neg bc_ne.symm, if_pos rfl] at h2
    cases h2
    rcases h3 with ⟨md, h4, h5, h6⟩ | h3
    · simp only [pB2] at h4
      split at h4
      · rename_i h; exact ⟨rfl, h⟩
      · cases h4
    · simp [ahead, pB2] at h3
  · cases h1
theorem ku3_ring : ¬ Reach ku3 2 2 := fun h => by
  have key : ∀ {a b : Int}, Reach ku3 a b → a = 2 → b = 1 := by
    intro a b hr
    induction hr with
    | one hb => intro _; exact (ku3_blk hb).2
    | step hb hr _ =>
      intro _
      have h1 := (ku3_blk hb).2
      subst h1
      cases hr with
      | one hb => have := (ku3_blk hb).1; omega
      | step hb _ => have := (ku3_blk hb).1; omega
  have := key h rfl
  omega
theorem ku4_blk {x u : Int} (h : blk ku4 x u) : (x = 2 ∧ u = 1) ∨ (x = 1 ∧ u = 2) := by
  obtain ⟨gr, p, h1, h2, h3⟩ := h
  rw [ku4_waits] at h1
  split at h1
  · rename_i hx
    subst hx
    cases h1
    rw [ku4_pl, if_pos rfl] at h2
    cases h2
    rcases h3 with ⟨md, h4, h5, h6⟩ | h3
    · simp only [pC2] at h4
      split at h4
      · rename_i h; exact .inr ⟨rfl, h⟩
      · cases h4
    · simp [ahead, pC2] at h3
  · split at h1
    · rename_i _ hx
      subst hx
      cases h1
      rw [ku4_pl, if_neg bc_ne.symm, if_pos rfl] at h2
      cases h2
      rcases h3 with ⟨md, h4, h5, h6⟩ | h3
      · simp only [pB2] at h4
        split at h4
        · rename_i h; exact .inl ⟨rfl, h⟩
        · cases h4
      · simp [ahead, pB2] at h3
    · cases h1
theorem ku4_b12 : blk ku4 1 2 := ⟨(sC, 3), pC2, by rw [ku4_waits]; rfl, by rw [ku4_pl, if_pos rfl], .inl ⟨4, rfl, by decide, by decide⟩⟩
theorem ku4_b21 : blk ku4 2 1 := ⟨(sB, 3), pB2, by rw [ku4_waits]; rfl, by rw [ku4_pl, if_neg bc_ne.symm, if_pos rfl], .inl ⟨4, rfl, by decide, by decide⟩⟩
theorem ku4_ring : Reach ku4 1 1 := .step ku4_b12 (.one ku4_b21)
theorem ku4_vict {v : Int} (h : isVict ku4 1 v) : v = 2 := by
  have h2 : 2 ≤ v := h.2 2 (.inr ⟨.one ku4_b12, .one ku4_b21⟩)
  have key : ∀ {a b : Int}, Reach ku4 a b → b = 1 ∨ b = 2 := by
    intro a b hr
    induction hr with
    | one hb => rcases ku4_blk hb with h | h <;> omega
    | step _ _ ih => exact ih
  rcases h.1 with h | ⟨h, _⟩
  · omega
  · rcases key h with h | h <;> omega
end Go.Proofs.Ytjnbbmchmkiodaa
