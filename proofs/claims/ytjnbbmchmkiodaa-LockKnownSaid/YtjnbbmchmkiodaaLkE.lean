/- A table that changes: new places, queues, waits. -/
import Derived.Test.YtjnbbmchmkiodaaLkD
namespace Go.Proofs.Ytjnbbmchmkiodaa
open Go.RowKit Go.MapKept

section
variable {w w' : World} {tb : Nat} {m : TM} {L : TL} {ρ : Nat → Role}
theorem Tab.keepR {F : Nat → Prop} (R : Role → Prop) (h : Tab w tb m L ρ) (hc : Chg F w w') (hF : ∀ k, F k → R (ρ k)) :
    (¬ R .tab → w'.heap[tb]? = some (.cells #[.map (some L.tp), .map (some L.tw), .map (some L.tn)] 66 (0, 0))) ∧
    (¬ R .mp → MapAt w' L.tp .string encS (placesF m L)) ∧ (¬ R .mw → MapAt w' L.tw (.int .u64) encU (waitsF m)) ∧ (¬ R .mn → MapAt w' L.tn (.int .u64) encU (namesF m L)) ∧
    (∀ s p, m.pl s = some p → ¬ R (.place s) → ¬ R (.held s) → ¬ R (.queue s) → PlAt w' (L.pl s) p) ∧
    (∀ o f, m.names o = some f → ¬ R (.inner o) → MapAt w' (L.nm o) .string encS (setF f)) := by
  have no : ∀ {k : Nat} {q : Role}, ρ k = q → ¬ R q → ¬ F k := fun e hr f => hr (e ▸ hF _ f)
  refine ⟨fun hr => hc.blk h.blk (no h.rt hr), fun hr => h.mp.chg hc (no h.rp hr), fun hr => h.mw.chg hc (no h.rw hr), fun hr => h.mn.chg hc (no h.rn hr), fun s p hp h1 h2 h3 => ?_, fun o f hf hr => ?_⟩
  · obtain ⟨g1, g2, g3, g4⟩ := h.pl s p hp
    exact g1.chg hc (no g2 h1) (no g3 h2) (fun b hb => no (g4 b hb) h3)
  · obtain ⟨g1, g2⟩ := h.nm o f hf
    exact g1.chg hc (no g2 hr)

def PlM.empty : PlM := ⟨fun _ => none, []⟩
def TM.newPlace (m : TM) (s : ByteArray) : TM := { m with pl := fun x => if x = s then some PlM.empty else m.pl x }
def TL.newPlace (L : TL) (s : ByteArray) (pb hb : Nat) : TL := { L with pl := fun x => if x = s then ⟨pb, hb, none, 0⟩ else L.pl x }
theorem Tab.newPlace {s : ByteArray} {pb hb : Nat} (h : Tab w tb m L ρ) (hs : m.pl s = none) (hp : w.heap.size ≤ pb) (hh : w.heap.size ≤ hb) (hne : hb ≠ pb) (hpl : pb < w'.heap.size) (hc : Chg (fun k => k = L.tp) w w')
    (hB : w'.heap[pb]? = some (.cells #[.map (some hb), .slice none 0 0] 71 (0, 0))) (hH : MapAt w' hb (.int .u64) encU (fun _ => none)) (hM : MapAt w' L.tp .string encS (fun i => if i = s then some (.pointer (some ⟨pb, 0, none⟩)) else placesF m L i)) :
    Tab w' tb (m.newPlace s) (L.newPlace s pb hb) (roleAt (roleAt ρ hb (.held s)) pb (.place s)) := by
  have hf1 := h.fresh hh
  have hf2 : roleAt ρ hb (.held s) pb = .none := by unfold roleAt; rw [if_neg (fun e => hne e.symm)]; exact h.fresh hp
  have old : ∀ {k : Nat} {q : Role}, ρ k = q → q ≠ .none → roleAt (roleAt ρ hb (.held s)) pb (.place s) k = q := fun e hq => roleAt_old hf2 (roleAt_old hf1 e hq) hq
  obtain ⟨k1, k2, k3, k4, k5, k6⟩ := h.keepR (fun r => r = .mp) hc (fun k hk => by rw [hk]; exact h.rp)
  refine ⟨k1 (by simp), hM.ext (fun x => ?_), k3 (by simp), (k4 (by simp)).ext (fun x => rfl), fun x q hq => ?_, fun i g hg => ⟨k6 i g hg (by simp), old (h.nm i g hg).2 (by simp)⟩, old h.rt (by simp), old h.rp (by simp), old h.rw (by simp), old h.rn (by simp), fun k hk => ?_⟩
  · simp only [placesF, TM.newPlace, TL.newPlace]
    by_cases hx : x = s <;> simp [hx]
  · simp only [TM.newPlace] at hq
    by_cases hx : x = s
    · subst hx
      simp only [if_true, Option.some.injEq] at hq
      subst hq
      simp only [TL.newPlace, if_true]
      refine ⟨⟨hB, hH.ext (fun i => rfl), QAt.none' _⟩, by simp [roleAt], by simp [roleAt, hne], fun b hb => by cases hb⟩
    · rw [if_neg hx] at hq
      obtain ⟨_, g2, g3, g4⟩ := h.pl x q hq
      simp only [TL.newPlace, if_neg hx]
      exact ⟨k5 x q hq (by simp) (by simp) (by simp), old g2 (by simp), old g3 (by simp), fun b hb => old (g4 b hb) (by simp)⟩
  · unfold roleAt at hk
    split at hk
    · omega
    · split at hk
      · have := hH.lt; omega
      · exact Nat.lt_of_lt_of_le (h.lt k hk) hc.size

def TM.setQ (m : TM) (s : ByteArray) (p : PlM) (q : List (Int × Int)) : TM := { m with pl := fun x => if x = s then some { p with queue := q } else m.pl x }
def TL.setQ (L : TL) (s : ByteArray) (qa : Option Addr) (qc : Nat) : TL := { L with pl := fun x => if x = s then { L.pl s with qa := qa, qc := qc } else L.pl x }
def roleQ (ρ : Nat → Role) (qa : Option Addr) (s : ByteArray) (k : Nat) : Role := match qa with | some b => if k = b.block then .queue s else ρ k | none => ρ k
theorem roleQ_old {s : ByteArray} {qa : Option Addr} (hq : ∀ b, qa = some b → ρ b.block = .queue s ∨ ρ b.block = .none) {k : Nat} {r : Role} (h : ρ k = r) (hr : r ≠ .none) : roleQ ρ qa s k = r := by
  unfold roleQ
  cases qa with
  | none => exact h
  | some b =>
    simp only
    split
    · rename_i e
      subst e
      rcases hq b rfl with h1 | h1
      · rw [← h, h1]
      · exact absurd (h ▸ h1) hr
    · exact h
theorem Tab.setQ {s : ByteArray} {p : PlM} {qa : Option Addr} {qc n : Nat} {q : List (Int × Int)} (h : Tab w tb m L ρ) (hp : m.pl s = some p) (hc : Chg (fun k => ρ k = .place s ∨ ρ k = .queue s) w w')
    (hB : w'.heap[(L.pl s).pb]? = some (.cells #[.map (some (L.pl s).hb), .slice qa n qc] 71 (0, 0))) (hQ : QAt w' qa n qc q) (hq : ∀ b, qa = some b → ρ b.block = .queue s ∨ w.heap.size ≤ b.block) :
    Tab w' tb (m.setQ s p q) (L.setQ s qa qc) (roleQ ρ qa s) := by
  obtain ⟨g1, g2, g3, g4⟩ := h.pl s p hp
  have hq' : ∀ b, qa = some b → ρ b.block = .queue s ∨ ρ b.block = .none := fun b hb => (hq b hb).imp id h.fresh
  have old : ∀ {k : Nat} {r : Role}, ρ k = r → r ≠ .none → roleQ ρ qa s k = r := fun e hr => roleQ_old hq' e hr
  obtain ⟨k1, k2, k3, k4, k5, k6⟩ := h.keepR (fun r => r = .place s ∨ r = .queue s) hc (fun k hk => hk)
  refine ⟨k1 (by simp), (k2 (by simp)).ext (fun x => ?_), k3 (by simp), (k4 (by simp)).ext (fun x => rfl), fun x r hr => ?_, fun i g hg => ⟨k6 i g hg (by simp), old (h.nm i g hg).2 (by simp)⟩, old h.rt (by simp), old h.rp (by simp), old h.rw (by simp), old h.rn (by simp), fun k hk => ?_⟩
  · simp only [placesF, TM.setQ, TL.setQ]
    by_cases hx : x = s
    · subst hx; simp [hp]
    · simp [hx]
  · simp only [TM.setQ] at hr
    by_cases hx : x = s
    · subst hx
      simp only [if_true, Option.some.injEq] at hr
      subst hr
      simp only [TL.setQ, if_true]
      have hl := hQ.len
      subst hl
      refine ⟨⟨hB, (g1.held.chg hc (fun e => by rw [g3] at e; simp at e)).ext (fun i => rfl), hQ⟩, old g2 (by simp), old g3 (by simp), fun b hb => ?_⟩
      subst hb; simp [roleQ]
    · rw [if_neg hx] at hr
      obtain ⟨_, g2, g3, g4⟩ := h.pl x r hr
      simp only [TL.setQ, if_neg hx]
      exact ⟨k5 x r hr (by simp; exact hx) (by simp) (by simp; exact hx), old g2 (by simp), old g3 (by simp), fun b hb => old (g4 b hb) (by simp)⟩
  · unfold roleQ at hk
    cases qa with
    | none => exact Nat.lt_of_lt_of_le (h.lt k hk) hc.size
    | some b =>
      simp only at hk
      split at hk
      · rename_i e; subst e; exact hQ.lt b rfl
      · exact Nat.lt_of_lt_of_le (h.lt k hk) hc.size
theorem TOwn.setQ {s : ByteArray} {qa : Option Addr} (hc : Chg (fun k => ρ k = .place s ∨ ρ k = .queue s) w w') (hq : ∀ b, qa = some b → ρ b.block = .queue s ∨ w.heap.size ≤ b.block) : TOwn w ρ w' (roleQ ρ qa s) := by
  refine ⟨hc.mono (fun k hk => by rcases hk with hk | hk <;> rw [hk] <;> simp), fun k hk => ?_⟩
  unfold roleQ at hk
  cases qa with
  | none => exact .inl hk
  | some b =>
    simp only at hk
    split at hk
    · rename_i e; subst e
      rcases hq b rfl with h | h
      · left; rw [h]; simp
      · exact .inr h
    · exact .inl hk

def TM.addWait (m : TM) (o : Int) (g : ByteArray × Int) : TM := { m with waits := fun i => if i = o then some g else m.waits i }
theorem Tab.addWait {o : Int} {g : ByteArray × Int} (h : Tab w tb m L ρ) (hc : Chg (fun k => k = L.tw) w w') (hM : MapAt w' L.tw (.int .u64) encU (fun i => if i = o then some (.agg #[.string g.1, .int .i64 g.2]) else waitsF m i)) : Tab w' tb (m.addWait o g) L ρ := by
  obtain ⟨k1, k2, k3, k4, k5, k6⟩ := h.keepR (fun r => r = .mw) hc (fun k hk => by rw [hk]; exact h.rw)
  refine ⟨k1 (by simp), k2 (by simp), hM.ext (fun x => ?_), k4 (by simp), fun x q hq => ⟨k5 x q hq (by simp) (by simp) (by simp), (h.pl x q hq).2⟩, fun i f hf => ⟨k6 i f hf (by simp), (h.nm i f hf).2⟩, h.rt, h.rp, h.rw, h.rn, fun k hk => Nat.lt_of_lt_of_le (h.lt k hk) hc.size⟩
  simp only [waitsF, TM.addWait]
  by_cases hx : x = o <;> simp [hx]
end
end Go.Proofs.Ytjnbbmchmkiodaa
