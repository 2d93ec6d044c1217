/- Free's second loop: what stands between its steps. -/
import Derived.Test.YtjnbbmchmkiodaaLkQ3
namespace Go.Proofs.Ytjnbbmchmkiodaa
open Go.RowKit Go.MapKept

/-- While the second loop goes on. -/
structure FrE (w wx : World) (tb : Nat) (x : TM × List Int) (L1 : TL) (ρ ρ1 : Nat → Role) (ns : List ByteArray) (na : Option Addr) (ov : Value) : Prop where
  tab : Tab wx tb x.1 L1 ρ1
  own : TOwn w ρ wx ρ1
  out : ∃ a c, ov = .slice a x.2.length c ∧ wx.ownsRow 0 29 1 (.slice a x.2.length c) x.2.length (x.2.map (Value.int .u64)) ∧ ∀ b, a = some b → ρ1 b.block = .none ∧ w.heap.size ≤ b.block ∧ ∀ d, na = some d → 0 < ns.length → d.block ≠ b.block
  names : ∀ i y, ns[i]? = some y → ∃ g, na = some ⟨g, 0, none⟩ ∧ w.heap.size ≤ g ∧ ρ1 g = .none ∧ wx.cell? ⟨g, i, none⟩ = some (.string y)

section
variable {w wx wy : World} {tb : Nat} {m m2 : TM} {out : List Int} {L1 L2 : TL} {ρ ρ1 ρ2 : Nat → Role} {ns : List ByteArray} {na : Option Addr} {ov : Value}
theorem role_old (hO : TOwn wx ρ1 wy ρ2) {k : Nat} (h : ρ1 k = .none) (hk : k < wx.heap.size) : ρ2 k = .none := Classical.byContradiction fun hr => by
  rcases hO.own k hr with h1 | h1
  · exact h1 h
  · omega
theorem row_lt {w : World} {base : Nat} {e : TypeId} {size : Nat} {b : Addr} {k c n : Nat} {xs : List Value} (h : w.ownsRow base e size (.slice (some b) k c) n xs) : b.block < w.heap.size := by
  rcases h.2 with ⟨hv, _⟩ | ⟨g, cap, cur, hv, _, hg, _⟩
  · simp at hv
  · simp only [Value.slice.injEq, Option.some.injEq] at hv
    rw [hv.1]; exact heap_lt hg
/-- The table goes on. -/
theorem FrE.go (h : FrE w wx tb (m, out) L1 ρ ρ1 ns na ov) (hT : Tab wy tb m2 L2 ρ2) (hO : TOwn wx ρ1 wy ρ2) : FrE w wy tb (m2, out) L2 ρ ρ2 ns na ov := by
  obtain ⟨a, c, hov, hr, hb⟩ := h.out
  refine ⟨hT, h.own.trans hO, ⟨a, c, hov, ownsRow_chg hr hO.chg (fun b e hk => hk (hb b e).1), fun b e => ?_⟩, fun i y hy => ?_⟩
  · subst e
    obtain ⟨h1, h2, h3⟩ := hb b rfl
    exact ⟨role_old hO h1 (row_lt hr), h2, h3⟩
  · obtain ⟨g, h1, h2, h3, h4⟩ := h.names i y hy
    have hlt := (cell_some h4).1
    exact ⟨g, h1, h2, role_old hO h3 hlt, (hO.chg.cell hlt (fun hk => hk h3)).trans h4⟩
theorem FrE.new (h : FrE w wx tb (m, out) L1 ρ ρ1 ns na ov) (hc : Chg NoB wx wy) : FrE w wy tb (m, out) L1 ρ ρ1 ns na ov := h.go (h.tab.chg0 hc) (TOwn.same hc)
/-- One more owner is told. -/
theorem FrE.app {a a' : Option Addr} {c c' : Nat} {ow : Int} (h : FrE w wx tb (m, out) L1 ρ ρ1 ns na (.slice a out.length c)) (hr : wy.ownsRow 0 29 1 (.slice a' (out.length + 1) c') (out.length + 1) (out.map (Value.int .u64) ++ [.int .u64 ow]))
    (hc : Chg (fun k => ∃ b, a = some b ∧ b.block = k) wx wy) (hn : ∀ k, (∃ b, a' = some b ∧ b.block = k) → (∃ b, a = some b ∧ b.block = k) ∨ wx.heap.size ≤ k) : FrE w wy tb (m, out ++ [ow]) L1 ρ ρ1 ns na (.slice a' (out.length + 1) c') := by
  obtain ⟨a0, c0, hov, hr0, hb⟩ := h.out
  simp only [Value.slice.injEq, true_and] at hov
  obtain ⟨rfl, rfl⟩ := hov
  have hF : ∀ k, (∃ b, a = some b ∧ b.block = k) → ρ1 k = .none ∧ w.heap.size ≤ k := fun k ⟨b, h1, h2⟩ => by
    have := hb b h1
    rw [← h2]; exact ⟨this.1, this.2.1⟩
  refine ⟨h.tab.chg hc (fun k hk => (hF k hk).1), ⟨h.own.chg.trans' hc (fun k hk => .inr (hF k hk).2), h.own.own⟩, ⟨a', c', by simp, by simpa using hr, fun b e => ?_⟩, fun i y hy => ?_⟩
  · rcases hn b.block ⟨b, e, rfl⟩ with ⟨b0, h1, h2⟩ | h1
    · rw [← h2]; exact hb b0 h1
    · refine ⟨h.tab.fresh h1, Nat.le_trans h.own.chg.size h1, fun d hd hl hne => ?_⟩
      obtain ⟨g, e1, _, _, h4⟩ := h.names 0 ns[0] (List.getElem?_eq_getElem hl)
      rw [hd] at e1
      have hlt := (cell_some h4).1
      simp only [Option.some.injEq] at e1
      subst e1
      rw [← hne] at h1
      simp only at h1 hlt; omega
  · obtain ⟨g, h1, h2, h3, h4⟩ := h.names i y hy
    have hl : 0 < ns.length := Nat.lt_of_le_of_lt (Nat.zero_le _) (List.getElem?_eq_some_iff.1 hy).1
    exact ⟨g, h1, h2, h3, (hc.cell (cell_some h4).1 (fun ⟨b, e1, e2⟩ => (hb b e1).2.2 _ h1 hl e2.symm)).trans h4⟩
end
section
variable {w w' : World} {tb : Nat} {m : TM} {L : TL} {ρ : Nat → Role}
/-- The head is let go, wherever the rest is said to begin. -/
theorem Tab.pop2 {s : ByteArray} {p : PlM} {r : List (Int × Int)} {qa : Option Addr} {c : Nat} (h : Tab w tb m L ρ) (hp : m.pl s = some p) (hQ : QAt w qa r.length c r) (hb : ∀ b, qa = some b → ρ b.block = .queue s) (hc : Chg (fun k => k = (L.pl s).pb) w w')
    (hB : w'.heap[(L.pl s).pb]? = some (.cells #[.map (some (L.pl s).hb), .slice qa r.length c] 71 (0, 0))) : Tab w' tb (m.setPl s { p with queue := r }) (L.setQ s qa c) ρ := by
  obtain ⟨g1, g2, g3, g4⟩ := h.pl s p hp
  have hc2 : Chg (fun k => ρ k = .place s ∨ ρ k = .queue s) w w' := hc.mono (fun k hk => .inl (by have : k = (L.pl s).pb := hk; rw [this]; exact g2))
  have hT := h.setQ hp hc2 hB (hQ.chg hc (fun b e hk => by have hk : b.block = (L.pl s).pb := hk; have := hb b e; rw [hk, g2] at this; cases this)) (fun b e => .inl (hb b e))
  rwa [roleQ_same hb] at hT
/-- A queue without its head. -/
theorem QAt.rest {a : Option Addr} {n c : Nat} {x : Int × Int} {q : List (Int × Int)} (h : QAt w a (n + 1) c (x :: q)) : QAt w (if c = 1 then a else a.map (·.add 2)) n (c - 1) q := by
  obtain ⟨g, off, rfl, hT⟩ := h.tail
  by_cases h1 : c = 1
  · rw [if_pos h1]
    have hl := hT.len
    have hcap := hT.cap
    have : n = 0 := by omega
    subst this
    have hq : q = [] := List.eq_nil_of_length_eq_zero hl.symm
    subst hq
    obtain ⟨cur, e1, e2, e3, -⟩ := h.blk _ rfl
    refine ⟨rfl, by omega, (fun h => by cases h), fun b hb => ⟨cur, ?_, ?_, ?_, fun j u hu => by simp [qcells] at hu⟩⟩
    · cases hb; rfl
    · cases hb; exact e2
    · cases hb; simp only at e3 ⊢; omega
  · rw [if_neg h1]
    exact hT
variable {P : Program} {ops : Array Oper} {rest : List Oper} {o : Oper} {a : Act} {Q : Exit → Act → World → Prop}
/-- 'q[1:]' of elements of two cells. -/
theorem wpList_tail2 (hg : o.guard = none) (x : Operand) (t : TypeId) (hop : o.op = Op.slice t x (some (.const (.int .i64 1))) none none) (ht : P.underlying t = some (.slice (P.elem t))) (hs : (P.info? (P.elem t)).map (·.size) = some 2) (qa : Option Addr) (n c : Nat) (hx : a.eval x = .slice qa (n + 1) c)
    (hK : wpList P ops Q rest (a.put o.dst (.slice (if c = 1 then qa else qa.map (·.add 2)) n (c - 1))) w) : wpList P ops Q (o :: rest) a w := by
  obtain ⟨i, hi, hsz⟩ := Option.map_eq_some_iff.1 hs
  refine wpList_run hg (v := .slice (if c = 1 then qa else qa.map (·.add 2)) n (c - 1)) (w' := w) ?_ hK
  have hlo : a.eval (.const (.int .i64 1)) = .int .i64 1 := rfl
  simp [execOp, hop, hx, hlo, run_sliceAt_slice w t _ _ _ _ ht, run_slice_l w t qa (n + 1) c ht .i64 1 (by decide) (by omega), sizeOf, typeInfo, hi, hsz, sliced, Result.andThen]
theorem run_tail2 (w : World) (t : TypeId) (ht : P.underlying t = some (.slice (P.elem t))) (hs : (P.info? (P.elem t)).map (·.size) = some 2) (qa : Option Addr) (n c : Nat) :
    (Instr.slice t (.slice qa (n + 1) c) (some (.int .i64 1)) none none).run P w = .ok (.slice (if c = 1 then qa else qa.map (·.add 2)) n (c - 1)) w := by
  obtain ⟨i, hi, hsz⟩ := Option.map_eq_some_iff.1 hs
  simp [run_slice_l w t qa (n + 1) c ht .i64 1 (by decide) (by omega), sizeOf, typeInfo, hi, hsz, sliced, Result.andThen]
theorem askElem : Try.prog.underlying 69 = some (.slice (Try.prog.elem 69)) := by kernel_rfl
theorem askElemSize : (Try.prog.info? (Try.prog.elem 69)).map (·.size) = some 2 := by kernel_rfl
end
def loopsOf : Code → List Code
  | .loop c => .loop c :: loopsOf c
  | .seq a b => loopsOf a ++ loopsOf b
  | .block _ c => loopsOf c
  | .scope c => loopsOf c
  | .cond _ a b => loopsOf a ++ loopsOf b
  | _ => []
noncomputable def freeLoop3 : Code := ((Try.f19.body.map loopsOf).getD []).getD 2 .skip
end Go.Proofs.Ytjnbbmchmkiodaa
