/- Regions that draw their order and end in an operation that spoils what the loads have read: S is asked behind all operations but those that wait for the loads themselves ('late'). -/
import Derived.Deep.RegionHeld3
namespace Go.Proofs.Ytjnbbmchmkiodaa
open Go

section
variable {P : Program} {md : Region.Mode} {ops : Array Oper} {Q : Exit → Act → World → Prop} {S : World → Prop} {late : Nat → Bool}

/-- Whatever order is picked from here on; S holds behind each operation that is not late. -/
def AnyM (P : Program) (md : Region.Mode) (ops : Array Oper) (Q : Exit → Act → World → Prop) (S : World → Prop) (late : Nat → Bool) : Nat → Array Bool → Act → World → Prop
  | 0, L, a, w => Region.ready md ops L = [] ∧ Q .normal a w
  | n + 1, L, a, w => (Region.ready md ops L = [] → Q .normal a w) ∧ ∀ i ∈ Region.ready md ops L, wpOp P ops Q i (fun a' w' => (late i = false → S w') ∧ AnyM P md ops Q S late n (L.setIfInBounds i true) a' w') a w

theorem AnyM.any : ∀ (n : Nat) (L : Array Bool) (a : Act) (w : World), AnyM P md ops Q S late n L a w → wpAny P md ops Q n L a w
  | 0, _, _, _, h => h
  | n + 1, _, _, _, h => ⟨h.1, fun i hi => wpOp_mono (fun a' w' g => AnyM.any n _ a' w' g.2) (h.2 i hi)⟩

/-- Each late operation waits for number i itself. -/
def lateWaits (md : Region.Mode) (ops : Array Oper) (late : Nat → Bool) (i : Nat) : Bool :=
  (List.range ops.size).all fun j => !late j || (match ops[j]? with | some o => o.after.any (fun e => Region.binds md e && e.on == i) | none => true)
theorem lateWaits_spec {i : Nat} (h : lateWaits md ops late i = true) {j : Nat} {o : Oper} (ho : ops[j]? = some o) (hn : ∀ e ∈ o.after, Region.binds md e = true → e.on ≠ i) : late j = false := by
  simp only [lateWaits, List.all_eq_true, List.mem_range] at h
  have h1 := h j (Array.getElem?_eq_some_iff.1 ho).1
  simp only [ho, Bool.or_eq_true, Bool.not_eq_eq_eq_not, Bool.not_true] at h1
  rcases h1 with h1 | h1
  · exact h1
  · obtain ⟨e, he, hb⟩ := Array.any_eq_true'.1 h1
    simp only [Bool.and_eq_true, beq_iff_eq] at hb
    exact absurd hb.2 (hn e he hb.1)

theorem AnyM.first {i : Nat} {oi : Oper} {v : Value} (hi : ops[i]? = some oi) (hsel : ∀ (j : Nat) (o : Oper) cs b, ops[j]? = some o → o.op ≠ .select cs b) (hlate : lateWaits md ops late i = true)
    (hQ : ∀ c a w, Q (.panic c) (a.put oi.dst v) w → Q (.panic c) a w) (n : Nat) : ∀ (L : Array Bool) (a : Act) (w : World),
      (∀ j oj, ops[j]? = some oj → j ≠ i → L.getD j true = false → (∀ e ∈ oj.after, Region.binds md e = true → e.on ≠ i) → oi.apart ops oj = true) →
      i ∈ Region.ready md ops L → YieldsIf P ops S oi v a → S w → (late i = false) →
      AnyM P md ops Q S late n (L.setIfInBounds i true) (a.put oi.dst v) w → AnyM P md ops Q S late (n + 1) L a w := by
  induction n with
  | zero =>
    intro L a w _ hr hy hS _ H
    have hne : Region.ready md ops L ≠ [] := fun h => by rw [h] at hr; cases hr
    refine ⟨fun h => absurd h hne, fun j hj => ?_⟩
    rcases Nat.decEq j i with hji | rfl
    · have := ready_mono hj hji; rw [H.1] at this; cases this
    · exact hy.wpOp hi hS ⟨fun _ => hS, H⟩
  | succ n ih =>
    intro L a w hfree hr hy hS hli H
    have hne : Region.ready md ops L ≠ [] := fun h => by rw [h] at hr; cases hr
    refine ⟨fun h => absurd h hne, fun j hj => ?_⟩
    rcases Nat.decEq j i with hji | rfl
    · obtain ⟨hun, oj, hoj, hall⟩ := mem_ready.1 hj
      have hnot : ∀ e ∈ oj.after, Region.binds md e = true → e.on ≠ i := by
        rintro e he hb rfl
        have ha := hall e he hb
        have hb := (mem_ready.1 hr).1
        simp only [Array.getD_eq_getD_getElem?] at ha hb
        cases hc : L[e.on]? with
        | none => rw [hc] at ha; simp at ha
        | some x => rw [hc] at ha hb; simp at ha hb; rw [ha] at hb; cases hb
      have hlj := lateWaits_spec hlate hoj hnot
      refine wpOp_mono (fun a' w' g => ⟨fun _ => g.2.1 hlj, ih (L.setIfInBounds j true) a' w' ?_ (ready_mono hr (Ne.symm hji)) g.1 (g.2.1 hlj) hli ?_⟩) (wpOp_putIf hoj (hfree j oj hoj hji hun hnot) (fun cs b => hsel i oi cs b hi) (fun cs b => hsel j oj cs b hoj) hQ hy (H.2 j (ready_mono hj hji)))
      · intro k ok hk hki hku hno
        refine hfree k ok hk hki ?_ hno
        rcases Nat.decEq j k with hjk | rfl
        · rwa [getD_set_ne true hjk] at hku
        · exact hun
      · rw [Array.setIfInBounds_comm _ _ hji]; exact g.2.2
    · exact hy.wpOp hi hS ⟨fun _ => hS, H⟩

/-- Take number i first. -/
theorem AnyM.take {i : Nat} {oi : Oper} {v : Value} {n : Nat} {L : Array Bool} {a : Act} {w : World} (hi : ops[i]? = some oi) (hs : Region.noSelect ops = true) (hl : lateWaits md ops late i = true) (hli : late i = false)
    (hf : Region.free md ops L i = true) (hr : (Region.ready md ops L).contains i = true) (hQ : ∀ c a w, Q (.panic c) (a.put oi.dst v) w → Q (.panic c) a w) (hy : YieldsIf P ops S oi v a) (hS : S w)
    (h : AnyM P md ops Q S late n (L.setIfInBounds i true) (a.put oi.dst v) w) : AnyM P md ops Q S late (n + 1) L a w :=
  AnyM.first hi (Region.noSelect_spec hs) hl hQ n L a w (Region.free_spec hi hf) (by simpa using hr) hy hS hli h
/-- Number i alone comes up: it is run; behind it S is shown anew. -/
theorem AnyM.step {i : Nat} {o : Oper} {n : Nat} {L : Array Bool} {a : Act} {w : World} (hr : Region.ready md ops L = [i]) (ho : ops[i]? = some o) (hl : late i = false)
    (h : ∀ K' : Act → World → Prop, Shut (∀ a w, S w → (S w → AnyM P md ops Q S late n (L.setIfInBounds i true) a w) → K' a w) → if Region.wanted o (yielded ops a.tmps) = true then Oper.wp P o a w K' Q else K' (a.put o.dst undef) w) : AnyM P md ops Q S late (n + 1) L a w := by
  refine ⟨(fun h0 => by rw [hr] at h0; cases h0), fun j hj => ?_⟩
  rw [hr, List.mem_singleton] at hj
  subst hj
  exact wpOp_step ho (fun K' hK => h K' (fun a w hS hW => hK a w ⟨fun _ => hS, hW hS⟩))
/-- .. a late one. -/
theorem AnyM.last {i : Nat} {o : Oper} {n : Nat} {L : Array Bool} {a : Act} {w : World} (hr : Region.ready md ops L = [i]) (ho : ops[i]? = some o) (hl : late i = true)
    (h : ∀ K' : Act → World → Prop, Shut (∀ a w, AnyM P md ops Q S late n (L.setIfInBounds i true) a w → K' a w) → if Region.wanted o (yielded ops a.tmps) = true then Oper.wp P o a w K' Q else K' (a.put o.dst undef) w) : AnyM P md ops Q S late (n + 1) L a w := by
  refine ⟨(fun h0 => by rw [hr] at h0; cases h0), fun j hj => ?_⟩
  rw [hr, List.mem_singleton] at hj
  subst hj
  exact wpOp_step ho (fun K' hK => h K' (fun a w hW => hK a w ⟨(fun h => by rw [hl] at h; cases h), hW⟩))
theorem AnyM.done {L : Array Bool} {a : Act} {w : World} (hr : Region.ready md ops L = []) (h : Q .normal a w) : ∀ n, AnyM P md ops Q S late n L a w
  | 0 => ⟨hr, h⟩
  | _ + 1 => ⟨fun _ => h, by rw [hr]; simp⟩
/-- The beginning. -/
theorem AnyM.region {id : Nat} {a : Act} {w : World} (hm : P.follows .mixedOrders = true) (h : AnyM P .any ops Q S late ops.size (Array.replicate ops.size false) a w.drew) : (Code.region id ops true).wp P Q a w :=
  wp_region_any hm (AnyM.any _ _ _ _ h)
end
end Go.Proofs.Ytjnbbmchmkiodaa
