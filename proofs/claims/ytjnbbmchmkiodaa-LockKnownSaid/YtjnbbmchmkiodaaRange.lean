/- Ranging over a map: 'Ranges'. No program in sight. -/
import Derived.Test.YtjnbbmchmkiodaaMap
namespace Go.Proofs.Ytjnbbmchmkiodaa
open Go.RowKit Go.MapKept
open Go.ChangeMaps (setBlock)

/-- Block r is an iterator over the map at b; V: the keys that have come. -/
structure Ranges {κ : Type} (w : World) (b r : Nat) (d : TypeDesc) (enc : κ → Value) (f : κ → Option Value) (V : κ → Prop) : Prop where
  map : MapAt w b d enc f
  ne : b ≠ r
  ex : ∃ es clock seen, w.heap[b]? = some (.map es clock) ∧ Stamped es clock ∧ w.heap[r]? = some (.mapIter (some b) clock seen clock) ∧
    ∀ x ∈ es.toList, ∀ k, x.key = enc k → (seen.contains x.born = true ↔ V k)

theorem Ranges.ltr {κ : Type} {w : World} {b r : Nat} {d : TypeDesc} {enc : κ → Value} {f : κ → Option Value} {V : κ → Prop} (h : Ranges w b r d enc f V) : r < w.heap.size := by
  obtain ⟨es, clock, seen, h1, h2, h3, h4⟩ := h.ex
  exact heap_lt h3
theorem Ranges.chg {κ : Type} {w w' : World} {b r : Nat} {d : TypeDesc} {enc : κ → Value} {f : κ → Option Value} {V : κ → Prop} {F : Nat → Prop} (h : Ranges w b r d enc f V) (hc : Chg F w w') (h1 : ¬ F b) (h2 : ¬ F r) : Ranges w' b r d enc f V := by
  obtain ⟨es, clock, seen, a1, a2, a3, a4⟩ := h.ex
  exact ⟨h.map.chg hc h1, h.ne, es, clock, seen, hc.blk a1 h1, a2, hc.blk a3 h2, a4⟩
theorem rangeLeft_chg {w w' : World} {b r : Nat} {F : Nat → Prop} (hc : Chg F w w') (h1 : ¬ F b) (h2 : ¬ F r) (hb : b < w.heap.size) (hr : r < w.heap.size) : w'.rangeLeft b r = w.rangeLeft b r := by
  unfold World.rangeLeft
  rw [hc.block b hb h1, hc.block r hr h2]

section
variable {κ : Type} {P : Program} {w : World} {b : Nat} {d : TypeDesc} {enc : κ → Value} {f : κ → Option Value} {V : κ → Prop}

theorem run_range_map (M : MapAt w b d enc f) {T K E : TypeId} (hT : P.underlying T = some (.map K E)) :
    ∃ w', (Instr.range T (.map (some b))).run P w = .ok (.pointer (some ⟨w.heap.size, 0, none⟩)) w' ∧ Ranges w' b w.heap.size d enc f (fun _ => False) ∧ Chg NoB w w' ∧ w'.heap.size = w.heap.size + 1 := by
  have hlt := M.lt
  obtain ⟨es, clock, hb, hs, hks, hf⟩ := M.ex
  refine ⟨w.alloc (.mapIter (some b) clock #[] clock), ?_, ⟨M.chg (Chg.alloc NoB _ _) (fun f => f), Nat.ne_of_lt hlt, es, clock, #[], alloc_blk hb _, hs, heap_alloc_new w _, ?_⟩, Chg.alloc _ _ _, by simp⟩
  · simp [Instr.range, run_underlying hT, MapKept.run_getObj_map hb, newObj, Sem.run, Result.andThen]
  · intro x _ k _
    simp

theorem run_next_map' {r : Nat} (h : Ranges w b r d enc f V) (ty : TypeId) :
    (w.rangeLeft b r = 0 ∧ (∀ k v, f k = some v → V k) ∧ (Instr.next (.pointer (some ⟨r, 0, none⟩)) false ty).run P w = .ok (.tuple #[.bool false]) w) ∨
    ∃ k v w', f k = some v ∧ ¬ V k ∧ (Instr.next (.pointer (some ⟨r, 0, none⟩)) false ty).run P w = .ok (.tuple #[.bool true, enc k, v]) w' ∧ Ranges w' b r d enc f (fun x => V x ∨ enc x = enc k) ∧
      w'.rangeLeft b r < w.rangeLeft b r ∧ Chg (fun i => i = r) w w' ∧ w'.heap.size = w.heap.size ∧ (Instr.entry (.pointer (some ⟨r, 0, none⟩))).run P w' = .ok (.tuple #[enc k, v]) w' := by
  obtain ⟨es, clock, seen, hb, hs, hr, hseen⟩ := h.ex
  obtain ⟨es', clock', hb', hs', hks, hf⟩ := h.map.ex
  rw [hb] at hb'
  simp only [Option.some.injEq, Obj.map.injEq] at hb'
  obtain ⟨rfl, rfl⟩ := hb'
  have hleft : w.rangeLeft b r = (leftOf es seen).size := by unfold World.rangeLeft; rw [hb, hr]
  rcases run_next_at (P := P) w ty r b clock clock seen es clock hr hb hs.1 (Nat.le_refl _) with ⟨h0, hrun⟩ | ⟨e, he, w1, hw1, hrun⟩
  · refine .inl ⟨by rw [hleft, h0], ?_, hrun⟩
    intro k v hkv
    obtain ⟨x, hx, hxk, _⟩ := (hf k v).1 hkv
    refine (hseen x hx k hxk).1 ?_
    have h2 : leftOf es seen = #[] := Array.eq_empty_of_size_eq_zero h0
    unfold leftOf at h2
    rw [Array.filter_eq_empty_iff] at h2
    have h3 := h2 x (Array.mem_toList_iff.1 hx)
    simpa using h3
  · obtain ⟨he1, he2⟩ := mem_left he
    obtain ⟨hk1, k, hk⟩ := hks e he1
    have hchg : Chg (fun i => i = r) w (setBlock w1 r (.mapIter (some b) clock (seen.push e.born) clock)) := by
      have h2 := setBlock_chg (w := w1) (F := fun i => i = r) (b := r) rfl (.mapIter (some b) clock (seen.push e.born) clock)
      rcases hw1 with rfl | rfl
      · exact h2
      · exact (Chg.drew _ _).trans h2
    have hr1 : w1.heap[r]? = some (.mapIter (some b) clock seen clock) := by rcases hw1 with rfl | rfl <;> exact hr
    have hr2 := setBlock_at (o' := Obj.mapIter (some b) clock (seen.push e.born) clock) hr1
    have hb2 := hchg.blk hb h.ne
    have hnd := ((stamped_iff es clock).1 hs).2.1
    refine .inr ⟨k, e.val, _, (hf k e.val).2 ⟨e, he1, hk, rfl⟩, ?_, by rw [← hk]; exact hrun, ⟨h.map.chg hchg h.ne, h.ne, es, clock, seen.push e.born, hb2, hs, hr2, ?_⟩, ?_, hchg, ?_, ?_⟩
    · intro hv
      have := (hseen e he1 k hk).2 hv
      rw [he2] at this; cases this
    · intro x hx k' hk'
      rw [contains_push]
      by_cases hxe : x = e
      · subst hxe
        have : enc k' = enc k := hk'.symm.trans hk
        simp [this]
      · have hne : ¬ enc k' = enc k := fun q => hxe (unique_key hs hx he1 (by rw [hk', q, hk]))
        have hbn : ¬ x.born = e.born := by
          intro q
          have hp : es.toList.Pairwise (fun a b => a.born ≠ b.born) := List.pairwise_map.1 hnd
          rw [List.pairwise_iff_getElem] at hp
          obtain ⟨i, hi, rfl⟩ := List.mem_iff_getElem.1 hx
          obtain ⟨j, hj, hje⟩ := List.mem_iff_getElem.1 he1
          rw [← hje] at q
          rcases Nat.lt_trichotomy i j with h' | h' | h'
          · exact hp i j hi hj h' q
          · subst h'; exact hxe hje
          · exact hp j i hj hi h' q.symm
        have := hseen x hx k' hk'
        simp only [Bool.or_eq_true, beq_iff_eq]
        rw [this]
        constructor
        · rintro (q | q)
          · exact .inl q
          · exact absurd q (by first | exact hbn | exact fun z => hbn z.symm)
        · rintro (q | q)
          · exact .inl q
          · exact absurd q hne
    · rw [hleft]
      unfold World.rangeLeft
      rw [hb2, hr2]
      exact left_shrinks es seen e he
    · rcases hw1 with rfl | rfl <;> simp [setBlock]
    · rw [← hk]
      exact run_entry_at _ r b clock seen es clock e hr2 hb2 he1 hnd
end

section
variable {κ : Type} {P : Program} {w : World} {ops : Array Oper} {rest : List Oper} {o : Oper} {a : Act} {Q : Exit → Act → World → Prop} {b : Nat} {d : TypeDesc} {enc : κ → Value} {f : κ → Option Value} {V : κ → Prop}

theorem wpList_rng (hg : o.guard = none) (m : Operand) (T : TypeId) (hop : o.op = Op.range T m) (K E : TypeId) (hT : P.underlying T = some (.map K E)) (b : Nat) (hm : a.eval m = .map (some b)) (M : MapAt w b d enc f)
    (hK : ∀ w', Ranges w' b w.heap.size d enc f (fun _ => False) → Chg NoB w w' → w'.heap.size = w.heap.size + 1 → wpList P ops Q rest (a.put o.dst (.pointer (some ⟨w.heap.size, 0, none⟩))) w') : wpList P ops Q (o :: rest) a w := by
  obtain ⟨w', hrun, r1, r2, r3⟩ := run_range_map (P := P) M hT
  refine wpList_run hg (v := .pointer (some ⟨w.heap.size, 0, none⟩)) (w' := w') ?_ (hK w' r1 r2 r3)
  simp [execOp, hop, hm, hrun, Result.andThen]

theorem wpList_nxt (hg : o.guard = none) (it : Operand) (hop : o.op = Op.next it false) (b r : Nat) (hit : a.eval it = .pointer (some ⟨r, 0, none⟩)) (h : Ranges w b r d enc f V)
    (hDone : w.rangeLeft b r = 0 → (∀ k v, f k = some v → V k) → wpList P ops Q rest (a.put o.dst (.tuple #[.bool false])) w)
    (hMore : ∀ k v w', f k = some v → ¬ V k → Ranges w' b r d enc f (fun x => V x ∨ enc x = enc k) → w'.rangeLeft b r < w.rangeLeft b r → Chg (fun i => i = r) w w' → w'.heap.size = w.heap.size →
      (Instr.entry (.pointer (some ⟨r, 0, none⟩))).run P w' = .ok (.tuple #[enc k, v]) w' → wpList P ops Q rest (a.put o.dst (.tuple #[.bool true, enc k, v])) w') : wpList P ops Q (o :: rest) a w := by
  rcases run_next_map' (P := P) h o.type with ⟨h0, hall, hrun⟩ | ⟨k, v, w', h1, h2, hrun, h3, h4, h5, h6, h7⟩
  · refine wpList_run hg (v := .tuple #[.bool false]) (w' := w) ?_ (hDone h0 hall)
    simp [execOp, hop, hit, hrun, Result.andThen]
  · refine wpList_run hg (v := .tuple #[.bool true, enc k, v]) (w' := w') ?_ (hMore k v w' h1 h2 h3 h4 h5 h6 h7)
    simp [execOp, hop, hit, hrun, Result.andThen]
end
end Go.Proofs.Ytjnbbmchmkiodaa
