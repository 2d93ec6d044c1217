/- A table that changes: what is taken out. -/
import Derived.Test.YtjnbbmchmkiodaaLkP
namespace Go.Proofs.Ytjnbbmchmkiodaa
open Go.RowKit Go.MapKept

section
variable {w w' : World} {tb : Nat} {m : TM} {L : TL} {ρ : Nat → Role}
def TM.delNames (m : TM) (o : Int) : TM := { m with names := fun i => if i = o then none else m.names i }
theorem Tab.delNames {o : Int} (h : Tab w tb m L ρ) (hc : Chg (fun k => k = L.tn) w w') (hM : MapAt w' L.tn (.int .u64) encU (fun i => if i = o then none else namesF m L i)) : Tab w' tb (m.delNames o) L ρ := by
  obtain ⟨k1, k2, k3, k4, k5, k6⟩ := h.keepR (fun r => r = .mn) hc (fun k hk => by rw [hk]; exact h.rn)
  refine ⟨k1 (by simp), k2 (by simp), k3 (by simp), hM.ext (fun x => ?_), fun x q hq => ⟨k5 x q hq (by simp) (by simp) (by simp), (h.pl x q hq).2⟩, fun i f hf => ?_, h.rt, h.rp, h.rw, h.rn, fun k hk => Nat.lt_of_lt_of_le (h.lt k hk) hc.size⟩
  · simp only [namesF, TM.delNames]
    by_cases hx : x = o <;> simp [hx]
  · simp only [TM.delNames] at hf
    by_cases hi : i = o
    · rw [if_pos hi] at hf; cases hf
    · rw [if_neg hi] at hf; exact ⟨k6 i f hf (by simp), (h.nm i f hf).2⟩
def TM.delWait (m : TM) (o : Int) : TM := { m with waits := fun i => if i = o then none else m.waits i }
theorem Tab.delWait {o : Int} (h : Tab w tb m L ρ) (hc : Chg (fun k => k = L.tw) w w') (hM : MapAt w' L.tw (.int .u64) encU (fun i => if i = o then none else waitsF m i)) : Tab w' tb (m.delWait o) L ρ := by
  obtain ⟨k1, k2, k3, k4, k5, k6⟩ := h.keepR (fun r => r = .mw) hc (fun k hk => by rw [hk]; exact h.rw)
  refine ⟨k1 (by simp), k2 (by simp), hM.ext (fun x => ?_), k4 (by simp), fun x q hq => ⟨k5 x q hq (by simp) (by simp) (by simp), (h.pl x q hq).2⟩, fun i f hf => ⟨k6 i f hf (by simp), (h.nm i f hf).2⟩, h.rt, h.rp, h.rw, h.rn, fun k hk => Nat.lt_of_lt_of_le (h.lt k hk) hc.size⟩
  simp only [waitsF, TM.delWait]
  by_cases hx : x = o <;> simp [hx]
def PlM.drop (p : PlM) (o : Int) : PlM := { p with held := fun i => if i = o then none else p.held i }
def TM.setPl (m : TM) (s : ByteArray) (p : PlM) : TM := { m with pl := fun x => if x = s then some p else m.pl x }
theorem TM.setPl_at (m : TM) (s : ByteArray) (p : PlM) : (m.setPl s p).pl s = some p := by simp [TM.setPl]
theorem TM.setQ_eq (m : TM) (s : ByteArray) (p : PlM) (q : List (Int × Int)) : m.setQ s p q = m.setPl s { p with queue := q } := rfl
theorem TM.setPl_setPl (m : TM) (s : ByteArray) (p q : PlM) : (m.setPl s p).setPl s q = m.setPl s q := by
  simp only [TM.setPl, TM.mk.injEq, and_self, and_true]
  funext x
  by_cases hx : x = s <;> simp [hx]
theorem Tab.delHeld {s : ByteArray} {p : PlM} {o : Int} (h : Tab w tb m L ρ) (hp : m.pl s = some p) (hc : Chg (fun k => k = (L.pl s).hb) w w') (hM : MapAt w' (L.pl s).hb (.int .u64) encU (fun i => if i = o then none else heldF p i)) : Tab w' tb (m.setPl s (p.drop o)) L ρ := by
  obtain ⟨g1, g2, g3, g4⟩ := h.pl s p hp
  obtain ⟨k1, k2, k3, k4, k5, k6⟩ := h.keepR (fun r => r = .held s) hc (fun k hk => by rw [hk]; exact g3)
  refine ⟨k1 (by simp), (k2 (by simp)).ext (fun x => ?_), k3 (by simp), (k4 (by simp)).ext (fun x => rfl), fun x q hq => ?_, fun i f hf => ⟨k6 i f hf (by simp), (h.nm i f hf).2⟩, h.rt, h.rp, h.rw, h.rn, fun k hk => Nat.lt_of_lt_of_le (h.lt k hk) hc.size⟩
  · simp only [placesF, TM.setPl]
    by_cases hx : x = s
    · subst hx; simp [hp]
    · simp [hx]
  · simp only [TM.setPl] at hq
    by_cases hx : x = s
    · subst hx
      simp only [if_true, Option.some.injEq] at hq
      subst hq
      have hne : ¬ (L.pl x).pb = (L.pl x).hb := fun e => by rw [e, g3] at g2; cases g2
      refine ⟨⟨hc.blk g1.blk hne, hM.ext (fun i => ?_), g1.queue.chg hc (fun b hb e => by have := g4 b hb; rw [e, g3] at this; cases this)⟩, g2, g3, g4⟩
      simp only [heldF, PlM.drop]
      by_cases hi : i = o <;> simp [hi]
    · rw [if_neg hx] at hq
      exact ⟨k5 x q hq (by simp) (by simp; exact hx) (by simp), (h.pl x q hq).2⟩
def TM.delPlace (m : TM) (s : ByteArray) : TM := { m with pl := fun x => if x = s then none else m.pl x }
theorem Tab.delPlace {s : ByteArray} (h : Tab w tb m L ρ) (hc : Chg (fun k => k = L.tp) w w') (hM : MapAt w' L.tp .string encS (fun i => if i = s then none else placesF m L i)) : Tab w' tb (m.delPlace s) L ρ := by
  obtain ⟨k1, k2, k3, k4, k5, k6⟩ := h.keepR (fun r => r = .mp) hc (fun k hk => by rw [hk]; exact h.rp)
  refine ⟨k1 (by simp), hM.ext (fun x => ?_), k3 (by simp), (k4 (by simp)).ext (fun x => rfl), fun x q hq => ?_, fun i f hf => ⟨k6 i f hf (by simp), (h.nm i f hf).2⟩, h.rt, h.rp, h.rw, h.rn, fun k hk => Nat.lt_of_lt_of_le (h.lt k hk) hc.size⟩
  · simp only [placesF, TM.delPlace]
    by_cases hx : x = s <;> simp [hx]
  · simp only [TM.delPlace] at hq
    by_cases hx : x = s
    · rw [if_pos hx] at hq; cases hq
    · rw [if_neg hx] at hq; exact ⟨k5 x q hq (by simp) (by simp) (by simp), (h.pl x q hq).2⟩
/-- The head of a queue is let go. -/
theorem QAt.tail {a : Option Addr} {n c : Nat} {x : Int × Int} {q : List (Int × Int)} (h : QAt w a (n + 1) c (x :: q)) : ∃ g off, a = some ⟨g, off, none⟩ ∧ QAt w (some ⟨g, off + 2, none⟩) n (c - 1) q := by
  obtain ⟨g, off, ha, -, -⟩ := h.cells (j := 0) (x := x) rfl
  subst ha
  obtain ⟨cur, -, hb, hf, hk⟩ := h.blk _ rfl
  simp only at hb hf hk
  have hl := h.len
  have hcap := h.cap
  refine ⟨g, off, rfl, by simpa using hl, by omega, (fun h => by cases h), fun b hb' => ?_⟩
  cases hb'
  refine ⟨cur, rfl, hb, by simp only; omega, fun j u hu => ?_⟩
  have : (qcells (x :: q))[2 + j]? = some u := by
    show (([Value.int .u64 x.1, .int .i64 x.2] ++ qcells q)[2 + j]?) = some u
    rw [List.getElem?_append_right (by simp)]
    simpa using hu
  have := hk _ _ this
  rwa [show off + 2 + j = off + (2 + j) by omega]
end

section
variable {P : Program} {ops : Array Oper} {Q : Exit → Act → World → Prop} {o : Oper} {a : Act} {w : World} {κ : Type} {enc : κ → Value} {d : TypeDesc} {f : κ → Option Value}
/-- 'delete' as a step of a region that draws its order. -/
theorem step_del {K0 : Act → World → Prop} {E0 : Prop} (hg : o.guard = none) (m k : Operand) (T KT : TypeId) (hop : o.op = .call { callee := .builtin .delete, args := #[m, k], argTypes := #[T, KT] }) (K E : TypeId)
    (hT : P.underlying T = some (.map K E)) (hK : P.underlying K = some d) (hinj : ∀ a b : κ, enc a = enc b → a = b) (hkey : ∀ k, IsKey d (enc k)) [DecidableEq κ]
    (b : Nat) (hm : a.eval m = .map (some b)) (M : MapAt w b d enc f) (x : κ) (hx : a.eval k = enc x)
    (hK' : ∀ w', MapAt w' b d enc (fun i => if i = x then none else f i) → Chg (fun i => i = b) w w' → K0 (a.put o.dst (.tuple #[])) w') : if Region.wanted o (yielded ops a.tmps) = true then Oper.wp P o a w K0 Q else E0 := by
  have hw : Region.wanted o (yielded ops a.tmps) = true := by simp [Region.wanted, hg]
  rw [if_pos hw]
  obtain ⟨ob, hrun, hM⟩ := run_del (P := P) (ty := o.type) M hT (by assumption) hinj hkey x KT
  unfold Oper.wp execOp
  simp only [hop, resolve, invoke, builtin, Sem.run_bind, Sem.run_pure, Result.andThen_ok, List.map_toArray, List.map_cons, List.map_nil, hm, hx, hrun]
  exact hK' _ hM (setBlock_chg (F := fun i => i = b) rfl _)
theorem step_look_ok {K0 : Act → World → Prop} {E0 : Prop} (hg : o.guard = none) (m k : Operand) (T : TypeId) (hop : o.op = Op.lookup T m k true) (K E : TypeId) (z : Value)
    (hT : P.underlying T = some (.map K E)) (hK : P.underlying K = some d) (hkey : ∀ k, IsKey d (enc k)) (hz : ∀ w : World, (zeroValue E).run P w = .ok z w)
    (b : Nat) (hm : a.eval m = .map (some b)) (M : MapAt w b d enc f) (x : κ) (hx : a.eval k = enc x) (v : Value) (hv : v = .tuple #[(f x).getD z, .bool (f x).isSome])
    (hK' : K0 (a.put o.dst v) w) : if Region.wanted o (yielded ops a.tmps) = true then Oper.wp P o a w K0 Q else E0 := by
  have hw : Region.wanted o (yielded ops a.tmps) = true := by simp [Region.wanted, hg]
  rw [if_pos hw]
  have hrun := run_look (P := P) M hT (by assumption) hkey hz x true
  simp only [if_true] at hrun
  subst hv
  unfold Oper.wp
  simp only [execOp, hop, hm, hx, Sem.run_bind, Sem.run_pure, hrun, Result.andThen]
  exact hK'
end
/-- How many: none just where all are away. -/
theorem len_of {w : World} {b : Nat} {κ : Type} {enc : κ → Value} {d : TypeDesc} {f : κ → Option Value} (M : MapAt w b d enc f) {T K E : TypeId} (hT : Try.prog.underlying T = some (.map K E)) :
    ∃ n : Nat, (n = 0 ↔ ∀ k, f k = none) ∧ ∀ ty, (Builtin.len_ #[T] ty #[.map (some b)]).run Try.prog w = .ok (.int .i64 n) w := by
  obtain ⟨es, clock, h1, h2, h3, h4⟩ := M.ex
  refine ⟨es.size, ⟨fun h0 k => ?_, fun hall => ?_⟩, fun ty => ?_⟩
  · cases hf : f k with
    | none => rfl
    | some v =>
      obtain ⟨x, hx, -⟩ := (h4 k v).1 hf
      have : es.toList = [] := List.eq_nil_of_length_eq_zero (by simpa using h0)
      rw [this] at hx; cases hx
  · cases hl : es.toList with
    | nil => rw [← Array.length_toList, hl]; rfl
    | cons x r =>
      obtain ⟨k, hk⟩ := (h3 x (by rw [hl]; simp)).2
      have := (h4 k x.val).2 ⟨x, by rw [hl]; simp, hk, rfl⟩
      rw [hall k] at this; cases this
  · simp [Builtin.len_, run_underlying hT, MapKept.run_getObj_map h1, goInt, Result.andThen]
end Go.Proofs.Ytjnbbmchmkiodaa
