/- Free's second loop: the head of a queue is let go. -/
import Derived.Test.YtjnbbmchmkiodaaLkQ2
namespace Go.Proofs.Ytjnbbmchmkiodaa
open Go.RowKit Go.MapKept

section
variable {w w' : World} {tb : Nat} {m : TM} {L : TL} {ρ : Nat → Role}
/-- The head is let go: the place's second cell alone is written. -/
theorem Tab.pop {s : ByteArray} {p : PlM} {x : Int × Int} {r : List (Int × Int)} (h : Tab w tb m L ρ) (hp : m.pl s = some p) (hq : p.queue = x :: r) {g off : Nat} (hqa : (L.pl s).qa = some ⟨g, off, none⟩) (hc : Chg (fun k => k = (L.pl s).pb) w w')
    (hB : w'.heap[(L.pl s).pb]? = some (.cells #[.map (some (L.pl s).hb), .slice (some ⟨g, off + 2, none⟩) r.length ((L.pl s).qc - 1)] 71 (0, 0))) :
    Tab w' tb (m.setPl s { p with queue := r }) (L.setQ s (some ⟨g, off + 2, none⟩) ((L.pl s).qc - 1)) ρ := by
  obtain ⟨g1, g2, g3, g4⟩ := h.pl s p hp
  have hQ := g1.queue
  rw [hq, List.length_cons] at hQ
  obtain ⟨g', off', ha, hQ2⟩ := hQ.tail
  rw [hqa] at ha
  simp only [Option.some.injEq, Addr.mk.injEq, and_true] at ha
  obtain ⟨rfl, rfl⟩ := ha
  have hrg : ρ g = .queue s := g4 _ hqa
  have hne : g ≠ (L.pl s).pb := fun e => by rw [e, g2] at hrg; cases hrg
  have hQ3 := hQ2.chg hc (fun b hb e => by cases hb; exact hne e)
  have hc2 : Chg (fun k => ρ k = .place s ∨ ρ k = .queue s) w w' := hc.mono (fun k hk => .inl (by have : k = (L.pl s).pb := hk; rw [this]; exact g2))
  have hT := h.setQ hp hc2 hB hQ3 (fun b hb => by cases hb; exact .inl hrg)
  rwa [roleQ_same (fun b hb => by cases hb; exact hrg)] at hT
end
theorem serve_cons (s : ByteArray) (m : TM) {p : PlM} (hp : m.pl s = some p) (ow md : Int) (r : List (Int × Int)) (hg : goesP p ow md) :
    serve s ((ow, md) :: r) m = ((serve s r ((((m.setPl s { p with queue := r }).hold s { p with queue := r } ow md)).delWait ow)).1, ow :: (serve s r ((((m.setPl s { p with queue := r }).hold s { p with queue := r } ow md)).delWait ow)).2) := by
  simp only [serve, hp, hg, if_true]
theorem serve_stop (s : ByteArray) (m : TM) {p : PlM} (hp : m.pl s = some p) (ow md : Int) (r : List (Int × Int)) (hg : ¬ goesP p ow md) : serve s ((ow, md) :: r) m = (m, []) := by
  simp only [serve, hp, hg, if_false]
/-- The place behind one that was served. -/
theorem served_pl (s : ByteArray) (m : TM) (p : PlM) (ow md : Int) (r : List (Int × Int)) : ((((m.setPl s { p with queue := r }).hold s { p with queue := r } ow md)).delWait ow).pl s = some { p with queue := r, held := fun i => if i = ow then some md else p.held i } := by
  simp [TM.delWait, TM.hold]
theorem serve_pl_other (s x : ByteArray) (hx : ¬ x = s) : ∀ (q : List (Int × Int)) (m : TM), (serve s q m).1.pl x = m.pl x
  | [], m => rfl
  | (ow, md) :: r, m => by
    cases hp : m.pl s with
    | none => simp [serve, hp]
    | some p =>
      by_cases hg : goesP p ow md
      · rw [serve_cons s m hp ow md r hg]
        simp only
        rw [serve_pl_other s x hx r]
        simp [TM.delWait, TM.hold, TM.setPl, hx]
      · rw [serve_stop s m hp ow md r hg]
theorem tidyAt_pl_other (s x : ByteArray) (hx : ¬ x = s) (m : TM) : (tidyAt s m).pl x = m.pl x := by
  unfold tidyAt
  cases m.pl s with
  | none => rfl
  | some p =>
    simp only
    split
    · simp [TM.delPlace, hx]
    · rfl
theorem serveAt_pl_other (y : TM × List Int) (s x : ByteArray) (hx : ¬ x = s) : (serveAt y s).1.pl x = y.1.pl x := by
  unfold serveAt
  cases y.1.pl s with
  | none => rfl
  | some p =>
    simp only
    rw [tidyAt_pl_other s x hx, serve_pl_other s x hx]
theorem serveAll_pl (x : ByteArray) : ∀ (ns : List ByteArray) (y : TM × List Int), x ∉ ns → (ns.foldl serveAt y).1.pl x = y.1.pl x
  | [], y, _ => rfl
  | s :: r, y, h => by
    rw [List.foldl_cons, serveAll_pl x r _ (fun hm => h (by simp [hm])), serveAt_pl_other y s x (fun e => h (by simp [e]))]
end Go.Proofs.Ytjnbbmchmkiodaa
