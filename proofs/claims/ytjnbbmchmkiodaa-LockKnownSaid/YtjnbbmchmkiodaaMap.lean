/- Maps as functions from keys: 'MapAt'; laws for the walk: look-up, store, delete, clear, len, range. No program in sight. -/
import Derived.Test.YtjnbbmchmkiodaaBase
import Derived.MapKept
import Derived.Maps.OwnOps
import Derived.Maps.OwnSet
import Derived.Maps.RangeWalk
namespace Go.Proofs.Ytjnbbmchmkiodaa
open Go.RowKit Go.MapKept
open Go.ChangeMaps (setBlock)

/-- Block b is a map that holds f. -/
structure MapAt {κ : Type} (w : World) (b : Nat) (d : TypeDesc) (enc : κ → Value) (f : κ → Option Value) : Prop where
  ex : ∃ es clock, w.heap[b]? = some (.map es clock) ∧ Stamped es clock ∧ (∀ x ∈ es.toList, IsKey d x.key ∧ ∃ k, x.key = enc k) ∧ ∀ k v, f k = some v ↔ ∃ x ∈ es.toList, x.key = enc k ∧ x.val = v

theorem MapAt.chg {κ : Type} {w w' : World} {b : Nat} {d : TypeDesc} {enc : κ → Value} {f : κ → Option Value} {F : Nat → Prop} (h : MapAt w b d enc f) (hc : Chg F w w') (hn : ¬ F b) : MapAt w' b d enc f := by
  obtain ⟨es, clock, h1, h2⟩ := h.ex
  exact ⟨es, clock, hc.blk h1 hn, h2⟩
theorem MapAt.lt {κ : Type} {w : World} {b : Nat} {d : TypeDesc} {enc : κ → Value} {f : κ → Option Value} (h : MapAt w b d enc f) : b < w.heap.size := by
  obtain ⟨es, clock, h1, _⟩ := h.ex
  exact heap_lt h1
theorem MapAt.ext {κ : Type} {w : World} {b : Nat} {d : TypeDesc} {enc : κ → Value} {f g : κ → Option Value} (h : MapAt w b d enc f) (hfg : ∀ k, f k = g k) : MapAt w b d enc g := by
  have : f = g := funext hfg
  exact this ▸ h
theorem MapAt.made {κ : Type} (w : World) (d : TypeDesc) (enc : κ → Value) : MapAt (w.alloc (.map #[] 0)) w.heap.size d enc (fun _ => none) :=
  ⟨#[], 0, heap_alloc_new w _, stamped_empty 0, by simp, by simp⟩

theorem unique_key {es : Array MapEntry} {clock : Nat} (h : Stamped es clock) {x y : MapEntry} (hx : x ∈ es.toList) (hy : y ∈ es.toList) (hk : x.key = y.key) : x = y := by
  have hp := ((stamped_iff es clock).1 h).2.2
  obtain ⟨i, hi, rfl⟩ := List.mem_iff_getElem.1 hx
  obtain ⟨j, hj, rfl⟩ := List.mem_iff_getElem.1 hy
  rw [List.pairwise_iff_getElem] at hp
  rcases Nat.lt_trichotomy i j with h' | h' | h'
  · exact absurd hk (hp i j hi hj h')
  · subst h'; rfl
  · exact absurd hk.symm (hp j i hj hi h')

section
variable {κ : Type} {P : Program} {w : World} {b : Nat} {d : TypeDesc} {enc : κ → Value} {f : κ → Option Value}

theorem run_look (M : MapAt w b d enc f) {T K E : TypeId} (hT : P.underlying T = some (.map K E)) (hK : P.underlying K = some d) (hkey : ∀ k, IsKey d (enc k)) {z : Value} (hz : ∀ w : World, (zeroValue E).run P w = .ok z w) (k : κ) (ok : Bool) :
    (Instr.lookup T (.map (some b)) (enc k) ok).run P w = .ok (if ok then .tuple #[(f k).getD z, .bool (f k).isSome] else (f k).getD z) w := by
  obtain ⟨es, clock, hb, hs, hks, hf⟩ := M.ex
  rcases findNow_spec (hkey k) es.toList 0 (fun x hx => (hks x hx).1) with ⟨h1, h2⟩ | ⟨j, e, h1, h2, h3⟩
  · have hn : f k = none := by
      cases hfk : f k with
      | none => rfl
      | some v =>
        obtain ⟨x, hx, hxk, _⟩ := (hf k v).1 hfk
        exact absurd hxk (h2 x hx)
    cases ok <;> simp [Instr.lookup, run_underlying hT, MapKept.run_getObj_map hb, run_checkKey hK (hkey k), run_findKey hK h1, Result.andThen, hz, hn]
  · have hm : e ∈ es.toList := List.mem_of_getElem? h2
    have hn : f k = some e.val := (hf k e.val).2 ⟨e, hm, h3, rfl⟩
    cases ok <;> simp [Instr.lookup, run_underlying hT, MapKept.run_getObj_map hb, run_checkKey hK (hkey k), run_findKey hK h1, Result.andThen, hn]

theorem run_look_nil {T K E : TypeId} (hT : P.underlying T = some (.map K E)) (hK : P.underlying K = some d) (hkey : ∀ k, IsKey d (enc k)) {z : Value} (hz : ∀ w : World, (zeroValue E).run P w = .ok z w) (k : κ) (ok : Bool) :
    (Instr.lookup T (.map none) (enc k) ok).run P w = .ok (if ok then .tuple #[z, .bool false] else z) w := by
  have h1 : Instr.findNow d (enc k) [] 0 = some none := rfl
  cases ok <;> simp [Instr.lookup, run_underlying hT, run_checkKey hK (hkey k), run_findKey hK h1, Result.andThen, hz]

theorem setBlock_chg {w : World} {b : Nat} {F : Nat → Prop} (hF : F b) (o : Obj) : Chg F w (setBlock w b o) :=
  ⟨rfl, rfl, rfl, by simp [setBlock], fun k _ hn => by
    have : k ≠ b := fun e => hn (e ▸ hF)
    simp [setBlock, Ne.symm this]⟩
theorem setBlock_at {w : World} {b : Nat} {o o' : Obj} (hb : w.heap[b]? = some o) : (setBlock w b o').heap[b]? = some o' := by
  have := heap_lt hb
  simp [setBlock, this]

theorem run_put (M : MapAt w b d enc f) {T K E : TypeId} (hT : P.underlying T = some (.map K E)) (hK : P.underlying K = some d) (hinj : ∀ a b : κ, enc a = enc b → a = b) (hkey : ∀ k, IsKey d (enc k)) [DecidableEq κ] (k : κ) (v : Value) :
    ∃ o, (Instr.mapUpdate T (.map (some b)) (enc k) v).run P w = .ok () (setBlock w b o) ∧ MapAt (setBlock w b o) b d enc (fun x => if x = k then some v else f x) := by
  obtain ⟨es, clock, hb, hs, hks, hf⟩ := M.ex
  rcases findNow_spec (hkey k) es.toList 0 (fun x hx => (hks x hx).1) with ⟨h1, h2⟩ | ⟨j, e, h1, h2, h3⟩
  · refine ⟨.map (es.push { key := enc k, val := v, born := clock }) (clock + 1), ?_, ⟨_, _, setBlock_at hb, stamped_push hs h2, ?_, ?_⟩⟩
    · simp [Instr.mapUpdate, run_underlying hT, MapKept.run_getObj_map hb, run_checkKey hK (hkey k), run_findKey hK h1, MapKept.run_setObj_map _ hb, Result.andThen, setBlock]
    · intro x hx
      simp only [Array.toList_push, List.mem_append, List.mem_singleton] at hx
      rcases hx with hx | rfl
      · exact hks x hx
      · exact ⟨hkey k, k, rfl⟩
    · intro k' v'
      simp only [Array.toList_push, List.mem_append, List.mem_singleton]
      constructor
      · intro h
        by_cases hk : k' = k
        · subst hk
          simp only [if_true, Option.some.injEq] at h
          exact ⟨_, Or.inr rfl, rfl, h⟩
        · simp only [hk, if_false] at h
          obtain ⟨x, hx, r⟩ := (hf k' v').1 h
          exact ⟨x, Or.inl hx, r⟩
      · rintro ⟨x, hx | rfl, hxk, hxv⟩
        · have hne : k' ≠ k := fun q => h2 x hx (by rw [hxk, q])
          simp only [hne, if_false]
          exact (hf k' v').2 ⟨x, hx, hxk, hxv⟩
        · have : k' = k := hinj _ _ hxk.symm
          simp only [this, if_true]
          exact congrArg some hxv
  · have hj : es[j]? = some e := by simpa using h2
    have hm : e ∈ es.toList := List.mem_of_getElem? h2
    have hkey' : ∀ e', es[j]? = some e' → ({ e' with key := enc k, val := v } : MapEntry).key = e'.key := fun e' he' => by rw [hj] at he'; cases he'; exact h3.symm
    refine ⟨.map (es.modify j fun e => { e with key := enc k, val := v }) clock, ?_, ⟨_, _, setBlock_at hb, stamped_modify hs _ _ (fun _ _ => rfl) (fun e' _ he' => hkey' e' he'), ?_, ?_⟩⟩
    · simp [Instr.mapUpdate, run_underlying hT, MapKept.run_getObj_map hb, run_checkKey hK (hkey k), run_findKey hK h1, hj, h3, run_keyThatStays (hkey k), MapKept.run_setObj_map _ hb, Result.andThen, setBlock]
    · intro x hx
      obtain ⟨i, hi⟩ := List.mem_iff_getElem?.1 hx
      rw [Array.getElem?_toList, Array.getElem?_modify] at hi
      by_cases hij : j = i
      · subst hij
        simp [hj] at hi
        subst hi
        exact ⟨hkey k, k, rfl⟩
      · simp [hij] at hi
        exact hks x (by simpa using Array.mem_of_getElem? hi)
    · intro k' v'
      have hmem : ∀ x, x ∈ (es.modify j fun e => { e with key := enc k, val := v }).toList ↔ (x ∈ es.toList ∧ x.key ≠ enc k) ∨ x = { e with key := enc k, val := v } := by
        intro x
        constructor
        · intro hx
          obtain ⟨i, hi⟩ := List.mem_iff_getElem?.1 hx
          rw [Array.getElem?_toList, Array.getElem?_modify] at hi
          by_cases hij : j = i
          · subst hij
            simp [hj] at hi
            exact Or.inr hi.symm
          · simp [hij] at hi
            refine Or.inl ⟨by simpa using Array.mem_of_getElem? hi, fun q => hij ?_⟩
            have hp := ((stamped_iff es clock).1 hs).2.2
            rw [List.pairwise_iff_getElem] at hp
            have hil : i < es.toList.length := by have := (Array.getElem?_eq_some_iff.1 hi).1; simpa using this
            have hjl : j < es.toList.length := by have := (Array.getElem?_eq_some_iff.1 hj).1; simpa using this
            have ei : es.toList[i] = x := by have := (Array.getElem?_eq_some_iff.1 hi).2; simpa using this
            have ej : es.toList[j] = e := by have := (Array.getElem?_eq_some_iff.1 hj).2; simpa using this
            rcases Nat.lt_trichotomy j i with h' | h' | h'
            · exact absurd (by rw [ei, ej, h3, q]) (hp j i hjl hil h')
            · exact h'
            · exact absurd (by rw [ei, ej, h3, q]) (hp i j hil hjl h')
        · rintro (⟨hx, hxk⟩ | rfl)
          · obtain ⟨i, hi⟩ := List.mem_iff_getElem?.1 hx
            refine List.mem_iff_getElem?.2 ⟨i, ?_⟩
            rw [Array.getElem?_toList] at hi ⊢
            rw [Array.getElem?_modify]
            by_cases hij : j = i
            · subst hij
              rw [hj] at hi; cases hi
              exact absurd h3 hxk
            · simp [hij, hi]
          · refine List.mem_iff_getElem?.2 ⟨j, ?_⟩
            rw [Array.getElem?_toList, Array.getElem?_modify]
            simp [hj]
      constructor
      · intro h
        by_cases hk : k' = k
        · subst hk
          simp only [if_true, Option.some.injEq] at h
          exact ⟨_, (hmem _).2 (Or.inr rfl), rfl, h⟩
        · simp only [hk, if_false] at h
          obtain ⟨x, hx, hxk, hxv⟩ := (hf k' v').1 h
          exact ⟨x, (hmem x).2 (Or.inl ⟨hx, fun q => hk (hinj _ _ (hxk.symm.trans q))⟩), hxk, hxv⟩
      · rintro ⟨x, hx, hxk, hxv⟩
        rcases (hmem x).1 hx with ⟨hx, hne⟩ | rfl
        · have hne' : k' ≠ k := fun q => hne (by rw [hxk, q])
          simp only [hne', if_false]
          exact (hf k' v').2 ⟨x, hx, hxk, hxv⟩
        · have : k' = k := hinj _ _ hxk.symm
          simp only [this, if_true]
          exact congrArg some hxv

theorem run_clear_map (M : MapAt w b d enc f) {T ty K E : TypeId} (hT : P.underlying T = some (.map K E)) :
    ∃ o, (Builtin.clear_ #[T] ty #[.map (some b)]).run P w = .ok (.tuple #[]) (setBlock w b o) ∧ MapAt (setBlock w b o) b d enc (fun _ => none) := by
  obtain ⟨es, clock, hb, hs, hks, hf⟩ := M.ex
  refine ⟨.map #[] clock, ?_, ⟨_, _, setBlock_at hb, stamped_empty _, by simp, by simp⟩⟩
  simp [Builtin.clear_, run_underlying hT, MapKept.run_getObj_map hb, MapKept.run_setObj_map _ hb, Result.andThen, setBlock]

theorem run_del (M : MapAt w b d enc f) {T ty K E : TypeId} (hT : P.underlying T = some (.map K E)) (hK : P.underlying K = some d) (hinj : ∀ a b : κ, enc a = enc b → a = b) (hkey : ∀ k, IsKey d (enc k)) [DecidableEq κ] (k : κ) (KT : TypeId) :
    ∃ o, (Builtin.delete_ #[T, KT] ty #[.map (some b), enc k]).run P w = .ok (.tuple #[]) (setBlock w b o) ∧ MapAt (setBlock w b o) b d enc (fun x => if x = k then none else f x) := by
  obtain ⟨es, clock, hb, hs, hks, hf⟩ := M.ex
  rcases findNow_spec (hkey k) es.toList 0 (fun x hx => (hks x hx).1) with ⟨h1, h2⟩ | ⟨j, e, h1, h2, h3⟩
  · refine ⟨.map es clock, ?_, ⟨_, _, setBlock_at hb, hs, hks, ?_⟩⟩
    · simp [Builtin.delete_, run_underlying hT, MapKept.run_getObj_map hb, run_checkKey hK (hkey k), run_findKey hK h1, MapKept.run_setObj_map _ hb, Result.andThen, setBlock]
    · intro k' v'
      by_cases hk : k' = k
      · subst hk
        simp only [if_true]
        exact ⟨(fun h => by cases h), fun ⟨x, hx, hxk, _⟩ => absurd hxk (h2 x hx)⟩
      · simp only [hk, if_false]; exact hf k' v'
  · have hj : es[j]? = some e := by simpa using h2
    have hjl : j < es.size := (Array.getElem?_eq_some_iff.1 hj).1
    have hel : (es.eraseIdxIfInBounds j).toList = es.toList.eraseIdx j := by
      unfold Array.eraseIdxIfInBounds
      rw [dif_pos hjl]; simp
    have hp := ((stamped_iff es clock).1 hs).2.2
    rw [List.pairwise_iff_getElem] at hp
    have hmem : ∀ x, x ∈ es.toList.eraseIdx j ↔ x ∈ es.toList ∧ x.key ≠ enc k := by
      intro x
      have hjl' : j < es.toList.length := by simpa using hjl
      have ej : es.toList[j] = e := by have := (Array.getElem?_eq_some_iff.1 hj).2; simpa using this
      rw [List.mem_eraseIdx_iff_getElem]
      constructor
      · rintro ⟨i, hi, hne, rfl⟩
        refine ⟨List.getElem_mem _, fun q => ?_⟩
        rcases Nat.lt_trichotomy j i with h' | h' | h'
        · exact absurd (by rw [ej, h3, q]) (hp j i hjl' hi h')
        · exact hne h'.symm
        · exact absurd (by rw [ej, h3, q]) (hp i j hi hjl' h')
      · rintro ⟨hx, hxk⟩
        obtain ⟨i, hi, rfl⟩ := List.mem_iff_getElem.1 hx
        exact ⟨i, hi, fun q => hxk (by subst q; rw [ej]; exact h3), rfl⟩
    refine ⟨.map (es.eraseIdxIfInBounds j) clock, ?_, ⟨_, _, setBlock_at hb, stamped_erase hs _, ?_, ?_⟩⟩
    · simp [Builtin.delete_, run_underlying hT, MapKept.run_getObj_map hb, run_checkKey hK (hkey k), run_findKey hK h1, MapKept.run_setObj_map _ hb, Result.andThen, setBlock]
    · intro x hx
      rw [hel, hmem] at hx
      exact hks x hx.1
    · intro k' v'
      rw [hel]
      by_cases hk : k' = k
      · subst hk
        simp only [if_true]
        exact ⟨(fun h => by cases h), fun ⟨x, hx, hxk, _⟩ => absurd hxk ((hmem x).1 hx).2⟩
      · simp only [hk, if_false]
        rw [hf k' v']
        exact ⟨fun ⟨x, hx, hxk, hxv⟩ => ⟨x, (hmem x).2 ⟨hx, fun q => hk (hinj _ _ (hxk.symm.trans q))⟩, hxk, hxv⟩, fun ⟨x, hx, r⟩ => ⟨x, ((hmem x).1 hx).1, r⟩⟩
end

/-! ### Laws at the operation -/
section
variable {κ : Type} {P : Program} {w : World} {ops : Array Oper} {rest : List Oper} {o : Oper} {a : Act} {Q : Exit → Act → World → Prop} {b : Nat} {d : TypeDesc} {enc : κ → Value} {f : κ → Option Value}

theorem wpList_look (hg : o.guard = none) (m k : Operand) (T : TypeId) (ok : Bool) (hop : o.op = Op.lookup T m k ok) (K E : TypeId) (z : Value)
    (hT : P.underlying T = some (.map K E)) (hK : P.underlying K = some d) (hkey : ∀ k, IsKey d (enc k)) (hz : ∀ w : World, (zeroValue E).run P w = .ok z w)
    (b : Nat) (hm : a.eval m = .map (some b)) (M : MapAt w b d enc f) (x : κ) (hx : a.eval k = enc x)
    (hK' : wpList P ops Q rest (a.put o.dst (if ok then .tuple #[(f x).getD z, .bool (f x).isSome] else (f x).getD z)) w) : wpList P ops Q (o :: rest) a w := by
  refine wpList_plain hg fun K hK => ?_
  have hrun := run_look (P := P) M hT (by assumption) hkey hz x ok
  unfold Oper.wp
  simp only [execOp, hop, hm, hx, Sem.run_bind, Sem.run_pure, hrun, Result.andThen]
  exact hK _ _ hK'

/-- 'v, ok := m[k]' where the key is there. -/
theorem wpList_look_some (hg : o.guard = none) (m k : Operand) (T : TypeId) (hop : o.op = Op.lookup T m k true) (K E : TypeId) (z : Value)
    (hT : P.underlying T = some (.map K E)) (hK : P.underlying K = some d) (hkey : ∀ k, IsKey d (enc k)) (hz : ∀ w : World, (zeroValue E).run P w = .ok z w)
    (b : Nat) (hm : a.eval m = .map (some b)) (M : MapAt w b d enc f) (x : κ) (hx : a.eval k = enc x) (v : Value) (hv : f x = some v)
    (hK' : wpList P ops Q rest (a.put o.dst (.tuple #[v, .bool true])) w) : wpList P ops Q (o :: rest) a w :=
  wpList_look hg m k T true hop K E z hT hK hkey hz b hm M x hx (by rw [hv]; exact hK')
theorem wpList_look_none (hg : o.guard = none) (m k : Operand) (T : TypeId) (hop : o.op = Op.lookup T m k true) (K E : TypeId) (z : Value)
    (hT : P.underlying T = some (.map K E)) (hK : P.underlying K = some d) (hkey : ∀ k, IsKey d (enc k)) (hz : ∀ w : World, (zeroValue E).run P w = .ok z w)
    (b : Nat) (hm : a.eval m = .map (some b)) (M : MapAt w b d enc f) (x : κ) (hx : a.eval k = enc x) (hv : f x = none)
    (hK' : wpList P ops Q rest (a.put o.dst (.tuple #[z, .bool false])) w) : wpList P ops Q (o :: rest) a w :=
  wpList_look hg m k T true hop K E z hT hK hkey hz b hm M x hx (by rw [hv]; exact hK')
/-- 'm[k]', whatever is there. -/
theorem wpList_look1 (hg : o.guard = none) (m k : Operand) (T : TypeId) (hop : o.op = Op.lookup T m k false) (K E : TypeId) (z : Value)
    (hT : P.underlying T = some (.map K E)) (hK : P.underlying K = some d) (hkey : ∀ k, IsKey d (enc k)) (hz : ∀ w : World, (zeroValue E).run P w = .ok z w)
    (b : Nat) (hm : a.eval m = .map (some b)) (M : MapAt w b d enc f) (x : κ) (hx : a.eval k = enc x) (v : Value) (hv : (f x).getD z = v)
    (hK' : wpList P ops Q rest (a.put o.dst v) w) : wpList P ops Q (o :: rest) a w :=
  wpList_look hg m k T false hop K E z hT hK hkey hz b hm M x hx (by rw [hv]; exact hK')

theorem wpList_put (hg : o.guard = none) (m k v : Operand) (T : TypeId) (hop : o.op = Op.mapUpdate T m k v) (K E : TypeId)
    (hT : P.underlying T = some (.map K E)) (hK : P.underlying K = some d) (hinj : ∀ a b : κ, enc a = enc b → a = b) (hkey : ∀ k, IsKey d (enc k)) [DecidableEq κ]
    (b : Nat) (hm : a.eval m = .map (some b)) (M : MapAt w b d enc f) (x : κ) (hx : a.eval k = enc x) (y : Value) (hy : a.eval v = y)
    (hK' : ∀ w', MapAt w' b d enc (fun i => if i = x then some y else f i) → Chg (fun i => i = b) w w' → wpList P ops Q rest (a.put o.dst undef) w') : wpList P ops Q (o :: rest) a w := by
  refine wpList_plain hg fun K hK => ?_
  obtain ⟨ob, hrun, hM⟩ := run_put (P := P) M hT (by assumption) hinj hkey x y
  unfold Oper.wp
  simp only [execOp, hop, hm, hx, hy, Sem.run_bind, Sem.run_pure, hrun, Result.andThen]
  exact hK _ _ (hK' _ hM (setBlock_chg (F := fun i => i = b) rfl _))

/-- The store as a step of a region that draws its order. -/
theorem step_put {K0 : Act → World → Prop} {E0 : Prop} (hg : o.guard = none) (m k v : Operand) (T : TypeId) (hop : o.op = Op.mapUpdate T m k v) (K E : TypeId)
    (hT : P.underlying T = some (.map K E)) (hK : P.underlying K = some d) (hinj : ∀ a b : κ, enc a = enc b → a = b) (hkey : ∀ k, IsKey d (enc k)) [DecidableEq κ]
    (b : Nat) (hm : a.eval m = .map (some b)) (M : MapAt w b d enc f) (x : κ) (hx : a.eval k = enc x) (y : Value) (hy : a.eval v = y)
    (hK' : ∀ w', MapAt w' b d enc (fun i => if i = x then some y else f i) → Chg (fun i => i = b) w w' → K0 (a.put o.dst undef) w') : if Region.wanted o (yielded ops a.tmps) = true then Oper.wp P o a w K0 Q else E0 := by
  have hw : Region.wanted o (yielded ops a.tmps) = true := by simp [Region.wanted, hg]
  rw [if_pos hw]
  obtain ⟨ob, hrun, hM⟩ := run_put (P := P) M hT (by assumption) hinj hkey x y
  unfold Oper.wp
  simp only [execOp, hop, hm, hx, hy, Sem.run_bind, Sem.run_pure, hrun, Result.andThen]
  exact hK' _ hM (setBlock_chg (F := fun i => i = b) rfl _)

theorem wpList_clear_map (hg : o.guard = none) (m : Operand) (T : TypeId) (hop : o.op = .call { callee := .builtin .clear, args := #[m], argTypes := #[T] }) (K E : TypeId)
    (hT : P.underlying T = some (.map K E)) (b : Nat) (hm : a.eval m = .map (some b)) (M : MapAt w b d enc f)
    (hK' : ∀ w', MapAt w' b d enc (fun _ => none) → Chg (fun i => i = b) w w' → wpList P ops Q rest (a.put o.dst (.tuple #[])) w') : wpList P ops Q (o :: rest) a w := by
  refine wpList_plain hg fun K hK => ?_
  obtain ⟨ob, hrun, hM⟩ := run_clear_map (P := P) (ty := o.type) M hT
  unfold Oper.wp execOp
  simp only [hop, resolve, invoke, builtin, Sem.run_bind, Sem.run_pure, Result.andThen_ok, List.map_toArray, List.map_cons, List.map_nil, hm, hrun]
  exact hK _ _ (hK' _ hM (setBlock_chg (F := fun i => i = b) rfl _))

theorem wpList_del (hg : o.guard = none) (m k : Operand) (T KT : TypeId) (hop : o.op = .call { callee := .builtin .delete, args := #[m, k], argTypes := #[T, KT] }) (K E : TypeId)
    (hT : P.underlying T = some (.map K E)) (hK : P.underlying K = some d) (hinj : ∀ a b : κ, enc a = enc b → a = b) (hkey : ∀ k, IsKey d (enc k)) [DecidableEq κ]
    (b : Nat) (hm : a.eval m = .map (some b)) (M : MapAt w b d enc f) (x : κ) (hx : a.eval k = enc x)
    (hK' : ∀ w', MapAt w' b d enc (fun i => if i = x then none else f i) → Chg (fun i => i = b) w w' → wpList P ops Q rest (a.put o.dst (.tuple #[])) w') : wpList P ops Q (o :: rest) a w := by
  refine wpList_plain hg fun K hK => ?_
  obtain ⟨ob, hrun, hM⟩ := run_del (P := P) (ty := o.type) M hT (by assumption) hinj hkey x KT
  unfold Oper.wp execOp
  simp only [hop, resolve, invoke, builtin, Sem.run_bind, Sem.run_pure, Result.andThen_ok, List.map_toArray, List.map_cons, List.map_nil, hm, hx, hrun]
  exact hK _ _ (hK' _ hM (setBlock_chg (F := fun i => i = b) rfl _))
end
end Go.Proofs.Ytjnbbmchmkiodaa
