/- A queue of asks in memory: 'QAt'; append; Insert at the end. -/
import Derived.Test.YtjnbbmchmkiodaaTog
import Derived.Test.YtjnbbmchmkiodaaRange
import Derived.ArgAppend
import Derived.Laws.IdiomCopy
namespace Go.Proofs.Ytjnbbmchmkiodaa
open Go.RowKit Go.MapKept

theorem infoAsk : (Try.prog.info? 77).map (fun i => (i.zero, i.size, i.bytes)) = some (some (.agg #[.int .u64 0, .int .i64 0]), 2, 16) := by kernel_rfl

def qcells (q : List (Int × Int)) : List Value := q.flatMap fun x => [.int .u64 x.1, .int .i64 x.2]
theorem qcells_length (q : List (Int × Int)) : (qcells q).length = q.length * 2 := by
  induction q with
  | nil => rfl
  | cons x r ih => simp only [qcells, List.flatMap_cons, List.length_append, List.length_cons, List.length_nil] at *; omega
theorem qcells_snoc (q : List (Int × Int)) (x : Int × Int) : qcells (q ++ [x]) = qcells q ++ [.int .u64 x.1, .int .i64 x.2] := by simp [qcells]
theorem qcells_one (q : List (Int × Int)) : ∀ u ∈ qcells q, u.oneCell' = true := by
  intro u hu
  obtain ⟨x, _, hx⟩ := List.mem_flatMap.1 hu
  simp at hx
  rcases hx with rfl | rfl <;> rfl
theorem qcells_at {q : List (Int × Int)} {j : Nat} {x : Int × Int} (h : q[j]? = some x) : (qcells q)[j * 2]? = some (.int .u64 x.1) ∧ (qcells q)[j * 2 + 1]? = some (.int .i64 x.2) :=
  flat2 (fun x : Int × Int => [.int .u64 x.1, .int .i64 x.2]) (fun _ => rfl) q j x h

/-- The slice of address a, length n, capacity c is the queue q; its block is its own. -/
structure QAt (w : World) (a : Option Addr) (n c : Nat) (q : List (Int × Int)) : Prop where
  len : n = q.length
  cap : n ≤ c
  nil : a = none → c = 0
  blk : ∀ b, a = some b → ∃ cur, b.spot = none ∧ w.heap[b.block]? = some (.cells cur 77 (0, 0)) ∧ b.off + c * 2 ≤ cur.size ∧ ∀ j u, (qcells q)[j]? = some u → cur[b.off + j]? = some u
theorem QAt.chg {F : Nat → Prop} {w w' : World} {a : Option Addr} {n c : Nat} {q : List (Int × Int)} (h : QAt w a n c q) (hc : Chg F w w') (hn : ∀ b, a = some b → ¬ F b.block) : QAt w' a n c q :=
  ⟨h.len, h.cap, h.nil, fun b hb => by
    obtain ⟨cur, h1, h2, h3⟩ := h.blk b hb
    exact ⟨cur, h1, hc.blk h2 (hn b hb), h3⟩⟩
theorem QAt.none' (w : World) : QAt w none 0 0 [] := ⟨rfl, Nat.le_refl _, fun _ => rfl, fun _ h => by cases h⟩
theorem QAt.lt {w : World} {a : Option Addr} {n c : Nat} {q : List (Int × Int)} (h : QAt w a n c q) : ∀ b, a = some b → b.block < w.heap.size := fun b hb => by
  obtain ⟨cur, _, h2, _⟩ := h.blk b hb
  exact heap_lt h2
theorem QAt.of_row {w : World} {base g c n : Nat} {q : List (Int × Int)} (h : w.ownsRow base 77 2 (.slice (some ⟨g, 0, none⟩) n c) n (qcells q)) : QAt w (some ⟨g, 0, none⟩) n c q := by
  have hl := h.1
  rw [qcells_length] at hl
  rcases h.2 with ⟨hv, _⟩ | ⟨g', cap, cur, hv, _, hg, h1, _, h3, h4⟩
  · simp at hv
  · simp only [Value.slice.injEq, Option.some.injEq, Addr.mk.injEq, true_and, and_true] at hv
    obtain ⟨rfl, rfl⟩ := hv
    refine ⟨by omega, h1, (fun h => by cases h), fun b hb => ?_⟩
    cases hb
    refine ⟨cur, rfl, hg, by simp only; omega, fun j u hu => ?_⟩
    rw [← h4, List.getElem?_take] at hu
    split at hu
    · simpa using hu
    · cases hu

section
variable {w : World} {ops : Array Oper} {rest : List Oper} {o : Oper} {a : Act} {Q : Exit → Act → World → Prop}
/-- One more ask behind a queue. -/
theorem wpList_app_q (hg : o.guard = none) (s x : Operand) (hop : o.op = .call { callee := .builtin .append, args := #[s, x], argTypes := #[69, 69] })
    (qa : Option Addr) (n c : Nat) (q : List (Int × Int)) (hs : a.eval s = .slice qa n c) (hQ : QAt w qa n c q) (ad : Addr) (xc : Nat) (ow md : Int) (hx : a.eval x = .slice (some ad) 1 xc) (hc : ∀ j u, [Value.int .u64 ow, .int .i64 md][j]? = some u → w.cell? (ad.add j) = some u)
    (hn : n ≤ 5000000000000)
    (h : ∀ a' c' w', QAt w' a' (n + 1) c' (q ++ [(ow, md)]) → Chg (fun k => ∃ b, qa = some b ∧ b.block = k) w w' → (∀ b, a' = some b → (∃ b0, qa = some b0 ∧ b0.block = b.block) ∨ w.heap.size ≤ b.block) → wpList Try.prog ops Q rest (a.put o.dst (.slice a' (n + 1) c')) w') :
    wpList Try.prog ops Q (o :: rest) a w := by
  obtain ⟨i0, hi, hz0, hz1, hz2⟩ := info_parts infoAsk
  have hgrow : ∀ (v' : Value) (w' : World), w'.ownsRow w.heap.size 77 2 v' (n + 1) (qcells q ++ [.int .u64 ow, .int .i64 md]) → w.grownBy w' none → wpList Try.prog ops Q rest (a.put o.dst v') w' := by
    intro v' w' hr hgr
    rw [← qcells_snoc q (ow, md)] at hr
    rcases hr.2 with ⟨_, h0⟩ | ⟨g, cap, cur, hv, hb, _⟩
    · omega
    · subst hv
      exact h _ _ _ (QAt.of_row hr) (Chg.grown hgr (fun k e => by cases e)) (fun b hb' => by cases hb'; exact .inr hb)
  have hone : ∀ u ∈ [Value.int .u64 ow, .int .i64 md], u.oneCell' = true := by intro u hu; simp at hu; rcases hu with rfl | rfl <;> rfl
  cases hqa : qa with
  | none =>
    subst hqa
    have hc0 := hQ.nil rfl
    have hcap := hQ.cap
    have hl := hQ.len
    have hn0 : n = 0 := by omega
    subst hc0 hn0
    have : q = [] := List.eq_nil_of_length_eq_zero hl.symm
    subst this
    exact wpList_append_grows w hg s x _ hop 77 i0 _ 2 16 Try.underlying69 hi hz0 hz1 hz2 rfl (by decide) none 0 0 [] hs (fun _ => ⟨rfl, rfl⟩) rfl (fun b hb => by cases hb) ad 1 xc _ hx rfl hc hone (by omega) (by unfold maxLen; omega) (by omega) (fun v' w' hr hg => hgrow v' w' hr hg)
  | some b =>
    subst hqa
    obtain ⟨cur, hsp, hbk, hsz, hcell⟩ := hQ.blk b rfl
    have hcap := hQ.cap
    have hl := hQ.len
    obtain ⟨g, off, sp⟩ := b
    simp only at hsp hbk hsz hcell
    subst hsp
    refine wpList_append_arg w hg s x _ hop 77 i0 _ 2 16 Try.underlying69 hi hz0 hz1 hz2 rfl (by decide) g off n c (qcells q) hs (by rw [qcells_length]; omega) (fun j u hu => by rw [cell_of_row w _ _ _ _ _ hbk]; exact hcell j u hu) ad 1 xc _ hx rfl hc hone ?_ (by unfold maxLen; omega) (by omega) ?_ (fun _ v' w' hr hg => hgrow v' w' hr hg)
    · intro hroom j hj
      simp only [List.length_cons, List.length_nil] at hj
      refine ⟨?_, (by simp [World.frozen?, hbk])⟩
      rw [cell_of_row w _ _ _ _ _ hbk, Array.getElem?_eq_getElem (by omega)]; rfl
    · intro hroom
      have hb2 := setCell_blk (i := off + n * 2 + 1) (setCell_blk (i := off + n * 2) hbk (.int .u64 ow)) (.int .i64 md)
      refine h _ c _ ⟨by simp [hl], hroom, (fun h => by cases h), fun b hb => ?_⟩ ((Chg.cell1 w g (off + n * 2) (.int .u64 ow)).trans (Chg.cell1 _ g (off + n * 2 + 1) (.int .i64 md)) |>.mono (fun k hk => ⟨_, rfl, hk.symm⟩)) (fun b hb => .inl ⟨_, rfl, by cases hb; rfl⟩)
      cases hb
      refine ⟨_, rfl, hb2, by simpa using hsz, fun j u hu => ?_⟩
      rw [qcells_snoc] at hu
      simp only [Array.getElem?_setIfInBounds]
      rcases Nat.lt_or_ge j (qcells q).length with hj | hj
      · rw [List.getElem?_append_left hj] at hu
        rw [qcells_length] at hj
        rw [if_neg (by omega), if_neg (by omega)]
        exact hcell j u hu
      · rw [List.getElem?_append_right hj] at hu
        rw [qcells_length] at hj hu
        have : j = n * 2 ∨ j = n * 2 + 1 := by
          rcases Nat.lt_or_ge j (n * 2 + 2) with h | h
          · omega
          · rw [List.getElem?_eq_none (by simp; omega)] at hu; cases hu
        rcases this with rfl | rfl
        · rw [show n * 2 - q.length * 2 = 0 by omega] at hu
          simp only [List.getElem?_cons_zero] at hu
          rw [if_neg (by omega), if_pos rfl, if_pos (by omega)]; exact hu
        · rw [show n * 2 + 1 - q.length * 2 = 1 by omega] at hu
          simp only [List.getElem?_cons_succ, List.getElem?_cons_zero] at hu
          rw [if_pos (by omega), if_pos (by simp; omega)]; exact hu
end
end Go.Proofs.Ytjnbbmchmkiodaa
