/- A table that changes: one block at a time. -/
import Derived.Test.YtjnbbmchmkiodaaLkA
namespace Go.Proofs.Ytjnbbmchmkiodaa
open Go.RowKit Go.MapKept

/-- What a step of a table writes, and owns then. -/
structure TOwn (w : World) (ρ : Nat → Role) (w' : World) (ρ' : Nat → Role) : Prop where
  chg : Chg (fun k => ρ k ≠ .none) w w'
  own : ∀ k, ρ' k ≠ .none → ρ k ≠ .none ∨ w.heap.size ≤ k
theorem TOwn.refl (w : World) (ρ : Nat → Role) : TOwn w ρ w ρ := ⟨Chg.refl _ _, fun _ h => .inl h⟩
theorem TOwn.trans {a b c : World} {ρ ρ' ρ'' : Nat → Role} (h : TOwn a ρ b ρ') (k : TOwn b ρ' c ρ'') : TOwn a ρ c ρ'' :=
  ⟨h.chg.trans' k.chg h.own, fun i hi => (k.own i hi).elim (h.own i) (fun g => .inr (Nat.le_trans h.chg.size g))⟩
theorem TOwn.same {w w' : World} {ρ : Nat → Role} (hc : Chg NoB w w') : TOwn w ρ w' ρ := ⟨hc.mono (fun _ f => f.elim), fun _ h => .inl h⟩

section
variable {w w' : World} {tb : Nat} {m : TM} {L : TL} {ρ : Nat → Role}
theorem Tab.keep {F : Nat → Prop} {r : Role} (h : Tab w tb m L ρ) (hc : Chg F w w') (hF : ∀ k, F k → ρ k = r) :
    (r ≠ .tab → w'.heap[tb]? = some (.cells #[.map (some L.tp), .map (some L.tw), .map (some L.tn)] 66 (0, 0))) ∧
    (r ≠ .mp → MapAt w' L.tp .string encS (placesF m L)) ∧ (r ≠ .mw → MapAt w' L.tw (.int .u64) encU (waitsF m)) ∧ (r ≠ .mn → MapAt w' L.tn (.int .u64) encU (namesF m L)) ∧
    (∀ s p, m.pl s = some p → r ≠ .place s → r ≠ .held s → r ≠ .queue s → PlAt w' (L.pl s) p) ∧
    (∀ o f, m.names o = some f → r ≠ .inner o → MapAt w' (L.nm o) .string encS (setF f)) := by
  have no : ∀ {k : Nat} {q : Role}, ρ k = q → r ≠ q → ¬ F k := fun e hr f => hr ((hF _ f).symm.trans e)
  refine ⟨fun hr => hc.blk h.blk (no h.rt hr), fun hr => h.mp.chg hc (no h.rp hr), fun hr => h.mw.chg hc (no h.rw hr), fun hr => h.mn.chg hc (no h.rn hr), fun s p hp h1 h2 h3 => ?_, fun o f hf hr => ?_⟩
  · obtain ⟨g1, g2, g3, g4⟩ := h.pl s p hp
    exact g1.chg hc (no g2 h1) (no g3 h2) (fun b hb => no (g4 b hb) h3)
  · obtain ⟨g1, g2⟩ := h.nm o f hf
    exact g1.chg hc (no g2 hr)

def TM.setHeld (m : TM) (s : ByteArray) (p : PlM) (o md : Int) : TM := { m with pl := fun x => if x = s then some { p with held := fun i => if i = o then some md else p.held i } else m.pl x }
theorem Tab.setHeld {s : ByteArray} {p : PlM} {o md : Int} (h : Tab w tb m L ρ) (hp : m.pl s = some p) (hc : Chg (fun k => k = (L.pl s).hb) w w') (hM : MapAt w' (L.pl s).hb (.int .u64) encU (fun i => if i = o then some (.int .i64 md) else heldF p i)) : Tab w' tb (m.setHeld s p o md) L ρ := by
  obtain ⟨g1, g2, g3, g4⟩ := h.pl s p hp
  obtain ⟨k1, k2, k3, k4, k5, k6⟩ := h.keep (r := .held s) hc (fun k hk => by rw [hk]; exact g3)
  refine ⟨k1 (by simp), (k2 (by simp)).ext (fun x => ?_), k3 (by simp), k4 (by simp), fun x q hq => ?_, fun o f hf => ⟨k6 o f hf (by simp), (h.nm o f hf).2⟩, h.rt, h.rp, h.rw, h.rn, fun k hk => Nat.lt_of_lt_of_le (h.lt k hk) hc.size⟩
  · simp only [placesF, TM.setHeld]
    by_cases hx : x = s
    · subst hx; simp [hp]
    · simp [hx]
  · simp only [TM.setHeld] at hq
    by_cases hx : x = s
    · subst hx
      simp only [if_true, Option.some.injEq] at hq
      subst hq
      have hne : ¬ (L.pl x).pb = (L.pl x).hb := fun e => by rw [e, g3] at g2; cases g2
      refine ⟨⟨hc.blk g1.blk hne, hM.ext (fun i => ?_), g1.queue.chg hc (fun b hb e => by have := g4 b hb; rw [e, g3] at this; cases this)⟩, g2, g3, g4⟩
      simp only [heldF]
      by_cases hi : i = o <;> simp [hi]
    · rw [if_neg hx] at hq
      exact ⟨k5 x q hq (by simp) (by simp; exact fun e => hx e.symm) (by simp), (h.pl x q hq).2⟩

def TM.addName (m : TM) (o : Int) (f : ByteArray → Bool) (s : ByteArray) : TM := { m with names := fun i => if i = o then some (fun x => decide (x = s) || f x) else m.names i }
theorem Tab.addName {o : Int} {f : ByteArray → Bool} {s : ByteArray} (h : Tab w tb m L ρ) (hf : m.names o = some f) (hc : Chg (fun k => k = L.nm o) w w') (hM : MapAt w' (L.nm o) .string encS (fun x => if x = s then some (.agg #[]) else setF f x)) : Tab w' tb (m.addName o f s) L ρ := by
  obtain ⟨g1, g2⟩ := h.nm o f hf
  obtain ⟨k1, k2, k3, k4, k5, k6⟩ := h.keep (r := .inner o) hc (fun k hk => by rw [hk]; exact g2)
  refine ⟨k1 (by simp), k2 (by simp), k3 (by simp), (k4 (by simp)).ext (fun x => ?_), fun x q hq => ⟨k5 x q hq (by simp) (by simp) (by simp), (h.pl x q hq).2⟩, fun i g hg => ?_, h.rt, h.rp, h.rw, h.rn, fun k hk => Nat.lt_of_lt_of_le (h.lt k hk) hc.size⟩
  · simp only [namesF, TM.addName]
    by_cases hx : x = o
    · subst hx; simp [hf]
    · simp [hx]
  · simp only [TM.addName] at hg
    by_cases hi : i = o
    · subst hi
      simp only [if_true, Option.some.injEq] at hg
      subst hg
      refine ⟨hM.ext (fun x => ?_), g2⟩
      by_cases hx : x = s <;> simp [setF, hx]
    · rw [if_neg hi] at hg
      exact ⟨k6 i g hg (by simp; exact fun e => hi e.symm), (h.nm i g hg).2⟩

def TM.newName (m : TM) (o : Int) : TM := { m with names := fun i => if i = o then some (fun _ => false) else m.names i }
def TL.newName (L : TL) (o : Int) (nb : Nat) : TL := { L with nm := fun i => if i = o then nb else L.nm i }
def roleAt (ρ : Nat → Role) (n : Nat) (r : Role) (k : Nat) : Role := if k = n then r else ρ k
/-- A new block is given a role. -/
theorem roleAt_old {n : Nat} {r : Role} (hn : ρ n = .none) {k : Nat} {q : Role} (h : ρ k = q) (hq : q ≠ .none) : roleAt ρ n r k = q := by
  unfold roleAt
  rw [if_neg (fun e => hq (by rw [← h, e, hn]))]; exact h
theorem Tab.fresh (h : Tab w tb m L ρ) {n : Nat} (hn : w.heap.size ≤ n) : ρ n = .none := Classical.byContradiction fun hr => by have := h.lt n hr; omega
theorem Tab.newName {o : Int} {nb : Nat} (h : Tab w tb m L ρ) (ho : m.names o = none) (hn : w.heap.size ≤ nb) (hlt : nb < w'.heap.size) (hc : Chg (fun k => k = L.tn) w w') (hN : MapAt w' nb .string encS (fun _ => none)) (hM : MapAt w' L.tn (.int .u64) encU (fun i => if i = o then some (.map (some nb)) else namesF m L i)) :
    Tab w' tb (m.newName o) (L.newName o nb) (roleAt ρ nb (.inner o)) := by
  have hf := h.fresh hn
  obtain ⟨k1, k2, k3, k4, k5, k6⟩ := h.keep (r := .mn) hc (fun k hk => by rw [hk]; exact h.rn)
  refine ⟨k1 (by simp), k2 (by simp), k3 (by simp), hM.ext (fun x => ?_), fun x q hq => ?_, fun i g hg => ?_, roleAt_old hf h.rt (by simp), roleAt_old hf h.rp (by simp), roleAt_old hf h.rw (by simp), roleAt_old hf h.rn (by simp), fun k hk => ?_⟩
  · simp only [namesF, TM.newName, TL.newName]
    by_cases hx : x = o <;> simp [hx]
  · obtain ⟨_, g2, g3, g4⟩ := h.pl x q hq
    exact ⟨k5 x q hq (by simp) (by simp) (by simp), roleAt_old hf g2 (by simp), roleAt_old hf g3 (by simp), fun b hb => roleAt_old hf (g4 b hb) (by simp)⟩
  · simp only [TM.newName] at hg
    by_cases hi : i = o
    · subst hi
      simp only [if_true, Option.some.injEq] at hg
      subst hg
      refine ⟨?_, by simp [TL.newName, roleAt]⟩
      simp only [TL.newName, if_true]
      exact hN.ext (fun x => by simp [setF])
    · rw [if_neg hi] at hg
      refine ⟨?_, ?_⟩
      · simp only [TL.newName, if_neg hi]; exact k6 i g hg (by simp)
      · simp only [TL.newName, if_neg hi]; exact roleAt_old hf (h.nm i g hg).2 (by simp)
  · unfold roleAt at hk
    split at hk
    · omega
    · exact Nat.lt_of_lt_of_le (h.lt k hk) hc.size
end
end Go.Proofs.Ytjnbbmchmkiodaa
