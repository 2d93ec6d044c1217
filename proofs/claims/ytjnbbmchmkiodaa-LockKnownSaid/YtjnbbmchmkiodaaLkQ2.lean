/- Free's model. -/
import Derived.Test.YtjnbbmchmkiodaaLkQ
namespace Go.Proofs.Ytjnbbmchmkiodaa
open Go.RowKit Go.MapKept

/-- An owner is taken out of a place. -/
def PlM.out (p : PlM) (o : Int) : PlM := ⟨(p.drop o).held, keepO o p.queue⟩
def dropAt (o : Int) (m : TM) (s : ByteArray) : TM := match m.pl s with | some p => m.setPl s (p.out o) | none => m
open Classical in
/-- The head of a place's queue is served as long as it goes. -/
noncomputable def serve (s : ByteArray) : List (Int × Int) → TM → TM × List Int
  | [], m => (m, [])
  | (ow, md) :: r, m =>
    match m.pl s with
    | some p => if goesP p ow md then
        let x := serve s r ((((m.setPl s { p with queue := r }).hold s { p with queue := r } ow md)).delWait ow)
        (x.1, ow :: x.2)
      else (m, [])
    | none => (m, [])
open Classical in
noncomputable def tidyAt (s : ByteArray) (m : TM) : TM :=
  match m.pl s with
  | some p => if (∀ k, p.held k = none) ∧ p.queue = [] then m.delPlace s else m
  | none => m
noncomputable def serveAt (x : TM × List Int) (s : ByteArray) : TM × List Int :=
  match x.1.pl s with
  | some p => (tidyAt s (serve s p.queue x.1).1, x.2 ++ (serve s p.queue x.1).2)
  | none => x
/-- Free, over the names in their order. -/
noncomputable def freeM (m : TM) (o : Int) (ns : List ByteArray) : TM × List Int := ns.foldl serveAt (ns.foldl (dropAt o) ((m.delNames o).delWait o), [])

theorem dropAt_pl (o : Int) (m : TM) (s x : ByteArray) : (dropAt o m s).pl x = if x = s then (m.pl s).map (·.out o) else m.pl x := by
  unfold dropAt
  by_cases hx : x = s
  · subst hx
    cases h : m.pl x <;> simp [h, TM.setPl]
  · cases h : m.pl s <;> simp [TM.setPl, hx]
open Classical in
theorem dropAll_pl (o : Int) : ∀ (ns : List ByteArray) (m : TM) (x : ByteArray), ns.Nodup → (ns.foldl (dropAt o) m).pl x = if x ∈ ns then (m.pl x).map (·.out o) else m.pl x
  | [], m, x, _ => by simp
  | s :: r, m, x, hn => by
    obtain ⟨h1, h2⟩ := List.nodup_cons.1 hn
    rw [List.foldl_cons, dropAll_pl o r _ x h2, dropAt_pl]
    by_cases hx : x = s
    · subst hx; simp [h1]
    · simp [hx]

section
variable {w w' : World} {tb : Nat} {m : TM} {L : TL} {ρ : Nat → Role}
theorem TL.setQ_same (L : TL) (s : ByteArray) : L.setQ s (L.pl s).qa (L.pl s).qc = L := by
  obtain ⟨tp, tw, tn, pl, nm⟩ := L
  simp only [TL.setQ, TL.mk.injEq, true_and, and_true]
  funext x
  by_cases hx : x = s <;> simp [hx]
theorem roleQ_same {s : ByteArray} {qa : Option Addr} (h : ∀ b, qa = some b → ρ b.block = .queue s) : roleQ ρ qa s = ρ := by
  funext k
  unfold roleQ
  cases qa with
  | none => rfl
  | some b =>
    simp only
    split
    · rename_i e; subst e; exact (h b rfl).symm
    · rfl
/-- A queue that stays where it lay. -/
theorem Tab.setQ_same {s : ByteArray} {p : PlM} {n : Nat} {q : List (Int × Int)} (h : Tab w tb m L ρ) (hp : m.pl s = some p) (hc : Chg (fun k => ρ k = .place s ∨ ρ k = .queue s) w w')
    (hB : w'.heap[(L.pl s).pb]? = some (.cells #[.map (some (L.pl s).hb), .slice (L.pl s).qa n (L.pl s).qc] 71 (0, 0))) (hQ : QAt w' (L.pl s).qa n (L.pl s).qc q) : Tab w' tb (m.setPl s { p with queue := q }) L ρ := by
  have h4 := (h.pl s p hp).2.2.2
  have := h.setQ hp hc hB hQ (fun b hb => .inl (h4 b hb))
  rwa [TL.setQ_same, roleQ_same h4] at this
end
end Go.Proofs.Ytjnbbmchmkiodaa
