/- LockFair: owners of one name, served in order: the plain law. -/
import Derived.Test.YtjnbbmchmkiodaaLkR
namespace Go.Proofs.Ytjnbbmchmkiodaa
open Go.RowKit Go.MapKept

/-- Of one name: who holds it, who waits. -/
structure SI (m : TM) (hs : List Int) (q : List (Int × Int)) : Prop where
  nd : (hs ++ q.map (·.1)).Nodup
  nm : ∀ u ∈ hs, m.names u = some (fun x => decide (x = sA))
  nn : ∀ u, u ∉ hs → m.names u = none
  wq : ∀ x ∈ q, m.waits x.1 = some (sA, x.2)
  wn : ∀ u, u ∉ q.map (·.1) → m.waits u = none
  po : ∀ x, x ≠ sA → m.pl x = none
  ps : ∃ p, m.pl sA = some p ∧ p.queue = q ∧ ∀ u, p.held u ≠ none ↔ u ∈ hs
structure FI (m : TM) (hs : List Int) (q : List (Int × Int)) : Prop where
  nd : (hs ++ q.map (·.1)).Nodup
  nm : ∀ u ∈ hs, m.names u = some (fun x => decide (x = sA))
  nn : ∀ u, u ∉ hs → m.names u = none
  wq : ∀ x ∈ q, m.waits x.1 = some (sA, x.2)
  wn : ∀ u, u ∉ q.map (·.1) → m.waits u = none
  po : ∀ x, x ≠ sA → m.pl x = none
  pe : hs = [] → q = [] ∧ m.pl sA = none
  ps : hs ≠ [] → ∃ p, m.pl sA = some p ∧ p.queue = q ∧ ∀ u, p.held u ≠ none ↔ u ∈ hs
theorem FI.si {m : TM} {hs : List Int} {q : List (Int × Int)} (h : FI m hs q) (hne : hs ≠ []) : SI m hs q := ⟨h.nd, h.nm, h.nn, h.wq, h.wn, h.po, h.ps hne⟩

theorem si_serve : ∀ (q : List (Int × Int)) (hs : List Int) (m : TM), SI m hs q →
    ∃ k, (serve sA q m).2 = (q.take k).map (·.1) ∧ SI (serve sA q m).1 (hs ++ (q.take k).map (·.1)) (q.drop k) ∧ (hs ++ (q.take k).map (·.1) = [] → q = [])
  | [], hs, m, h => ⟨0, rfl, by simpa [serve] using h, fun _ => rfl⟩
  | (ow, md) :: r, hs, m, h => by
    obtain ⟨p, hp, hq, hh⟩ := h.ps
    by_cases hg : goesP p ow md
    · rw [serve_cons sA m hp ow md r hg]
      have how : ow ∉ hs := fun hm => (List.nodup_append.1 h.nd).2.2 ow hm ow (by simp) rfl
      have hno := h.nn ow how
      have hnr : ow ∉ r.map (·.1) := by
        have := (List.nodup_append.1 h.nd).2.1
        simp only [List.map_cons, List.nodup_cons] at this
        exact this.1
      have h' : SI ((((m.setPl sA { p with queue := r }).hold sA { p with queue := r } ow md)).delWait ow) (hs ++ [ow]) r := by
        refine ⟨?_, fun u hu => ?_, fun u hu => ?_, fun x hx => ?_, fun u hu => ?_, fun x hx => ?_, ⟨_, served_pl sA m p ow md r, rfl, fun u => ?_⟩⟩
        · have := h.nd; simpa using this
        · simp only [TM.delWait, TM.hold, TM.setPl]
          by_cases he : u = ow
          · rw [if_pos he, hno]; simp
          · rw [if_neg he]
            simp only [List.mem_append, List.mem_singleton] at hu
            exact h.nm u (hu.resolve_right he)
        · simp only [List.mem_append, List.mem_singleton, not_or] at hu
          simp only [TM.delWait, TM.hold, TM.setPl]
          rw [if_neg hu.2]; exact h.nn u hu.1
        · have hne : x.1 ≠ ow := fun e => hnr (e ▸ List.mem_map_of_mem hx)
          simp only [TM.delWait, TM.hold, TM.setPl]
          rw [if_neg hne]; exact h.wq x (by simp [hx])
        · simp only [TM.delWait, TM.hold, TM.setPl]
          by_cases he : u = ow
          · rw [if_pos he]
          · rw [if_neg he]; exact h.wn u (by simp only [List.map_cons, List.mem_cons, not_or]; exact ⟨he, hu⟩)
        · simp only [TM.delWait, TM.hold, TM.setPl]
          rw [if_neg hx, if_neg hx]; exact h.po x hx
        · simp only [List.mem_append, List.mem_singleton]
          by_cases he : u = ow
          · simp [he]
          · simp only [he, if_false, or_false]; exact hh u
      obtain ⟨k, e1, e2, -⟩ := si_serve r _ _ h'
      refine ⟨k + 1, ?_, ?_, fun h0 => ?_⟩
      · simp only [e1, List.take_succ_cons, List.map_cons]
      · simp only [List.take_succ_cons, List.map_cons, List.drop_succ_cons]
        rw [List.append_cons]
        exact e2
      · simp at h0
    · rw [serve_stop sA m hp ow md r hg]
      refine ⟨0, by simp, by simpa using h, fun h0 => ?_⟩
      simp at h0
      subst h0
      exact absurd (fun u x hu _ => absurd (hh u) (by rw [hu]; simp)) hg

theorem fi_touched {m : TM} {hs : List Int} {q : List (Int × Int)} (h : FI m hs q) {o : Int} (ho : o ∈ hs) (x : ByteArray) : m.touched o x = true ↔ x = sA := by
  have hq : o ∉ q.map (·.1) := fun hm => (List.nodup_append.1 h.nd).2.2 o ho o hm rfl
  simp [TM.touched, TM.namesOf, h.wn o hq, h.nm o ho]
theorem ns_one {ns : List ByteArray} (hn : ns.Nodup) (h : ∀ x, x ∈ ns ↔ x = sA) : ns = [sA] := by
  cases ns with
  | nil => have := (h sA).2 rfl; cases this
  | cons a r =>
    have ha : a = sA := (h a).1 (by simp)
    subst ha
    cases r with
    | nil => rfl
    | cons b r =>
      have hb : b = sA := (h b).1 (by simp)
      subst hb
      simp at hn
open Classical in
theorem fi_free {m : TM} {hs : List Int} {q : List (Int × Int)} (h : FI m hs q) {o : Int} (ho : o ∈ hs) :
    ∃ k, (freeM m o [sA]).2 = (q.take k).map (·.1) ∧ FI (freeM m o [sA]).1 (hs.erase o ++ (q.take k).map (·.1)) (q.drop k) := by
  have hne : hs ≠ [] := fun e => by rw [e] at ho; cases ho
  obtain ⟨p, hp, hq, hh⟩ := h.ps hne
  have hnq : o ∉ q.map (·.1) := fun hm => (List.nodup_append.1 h.nd).2.2 o ho o hm rfl
  have hnh := (List.nodup_append.1 h.nd).1
  have hk : keepO o p.queue = q := by
    rw [hq]
    unfold keepO
    refine List.filter_eq_self.2 (fun x hx => ?_)
    have : x.1 ≠ o := fun e => hnq (e ▸ List.mem_map_of_mem hx)
    simp [isO, this]
  have hd : dropAt o ((m.delNames o).delWait o) sA = ((m.delNames o).delWait o).setPl sA (p.out o) := by
    unfold dropAt
    have : ((m.delNames o).delWait o).pl sA = some p := hp
    rw [this]
  have hout : (p.out o).queue = q := hk
  have hS : SI (dropAt o ((m.delNames o).delWait o) sA) (hs.erase o) q := by
    rw [hd]
    refine ⟨h.nd.sublist ((List.erase_sublist ..).append (List.Sublist.refl _)), fun u hu => ?_, fun u hu => ?_, fun x hx => ?_, fun u hu => ?_, fun x hx => ?_, ⟨_, TM.setPl_at _ _ _, hout, fun u => ?_⟩⟩
    · have := (hnh.mem_erase_iff).1 hu
      simp only [TM.setPl, TM.delWait, TM.delNames]
      rw [if_neg this.1]; exact h.nm u this.2
    · simp only [TM.setPl, TM.delWait, TM.delNames]
      by_cases he : u = o
      · rw [if_pos he]
      · rw [if_neg he]; exact h.nn u (fun hm => hu ((hnh.mem_erase_iff).2 ⟨he, hm⟩))
    · have hxo : x.1 ≠ o := fun e => hnq (e ▸ List.mem_map_of_mem hx)
      simp only [TM.setPl, TM.delWait, TM.delNames]
      rw [if_neg hxo]; exact h.wq x hx
    · simp only [TM.setPl, TM.delWait, TM.delNames]
      split
      · rfl
      · exact h.wn u hu
    · simp only [TM.setPl, TM.delWait, TM.delNames]
      rw [if_neg hx]; exact h.po x hx
    · rw [hnh.mem_erase_iff]
      simp only [PlM.out, PlM.drop]
      by_cases he : u = o
      · simp [he]
      · simp only [he, if_false, ne_eq, not_false_eq_true, true_and]; exact hh u
  obtain ⟨k, e1, e2, e3⟩ := si_serve q _ _ hS
  have hp1 : (dropAt o ((m.delNames o).delWait o) sA).pl sA = some (p.out o) := by rw [hd]; exact TM.setPl_at _ _ _
  have hf : freeM m o [sA] = (tidyAt sA (serve sA q (dropAt o ((m.delNames o).delWait o) sA)).1, (serve sA q (dropAt o ((m.delNames o).delWait o) sA)).2) := by
    simp only [freeM, List.foldl_cons, List.foldl_nil, serveAt, hp1, hout, List.nil_append]
  refine ⟨k, by rw [hf]; exact e1, ?_⟩
  rw [hf]
  generalize serve sA q (dropAt o ((m.delNames o).delWait o) sA) = z at e1 e2 ⊢
  obtain ⟨p2, hp2, hq2, hh2⟩ := e2.ps
  have key : tidyAt sA z.1 = if (∀ u, p2.held u = none) ∧ p2.queue = [] then z.1.delPlace sA else z.1 := by
    unfold tidyAt
    rw [hp2]
  by_cases hc : (∀ u, p2.held u = none) ∧ p2.queue = []
  · rw [key, if_pos hc]
    have hq0 : q.drop k = [] := by rw [← hq2]; exact hc.2
    have hs0 : hs.erase o ++ (q.take k).map (·.1) = [] := by
      refine List.eq_nil_iff_forall_not_mem.2 (fun u hu => ?_)
      exact (hh2 u).2 hu (hc.1 u)
    rw [hq0, hs0] at e2 ⊢
    refine ⟨e2.nd, e2.nm, e2.nn, e2.wq, e2.wn, fun x hx => ?_, fun _ => ⟨rfl, by simp [TM.delPlace]⟩, fun h0 => absurd rfl h0⟩
    simp only [TM.delPlace]
    rw [if_neg hx]; exact e2.po x hx
  · rw [key, if_neg hc]
    refine ⟨e2.nd, e2.nm, e2.nn, e2.wq, e2.wn, e2.po, fun h0 => ?_, fun _ => e2.ps⟩
    have hq0 := e3 h0
    refine absurd ⟨fun u => ?_, ?_⟩ hc
    · exact Classical.byContradiction fun hu => by
        have := (hh2 u).1 hu
        rw [h0] at this; cases this
    · rw [hq2, hq0]; simp
theorem sum_single {α : Type} (f : α → Nat) (s : α) (hf : ∀ x, x ≠ s → f x = 0) : ∀ ns : List α, ns.Nodup → (ns.map f).sum ≤ f s
  | [], _ => by simp
  | x :: r, hn => by
    obtain ⟨h1, h2⟩ := List.nodup_cons.1 hn
    have hz : ∀ r : List α, s ∉ r → (r.map f).sum = 0 := by
      intro r
      induction r with
      | nil => intro _; rfl
      | cons y t ih =>
        intro hs
        simp only [List.mem_cons, not_or] at hs
        simp only [List.map_cons, List.sum_cons, ih hs.2, hf y (fun e => hs.1 e.symm)]
    have ih := sum_single f s hf r h2
    by_cases hx : x = s
    · subst hx
      simp only [List.map_cons, List.sum_cons, hz r h1]; omega
    · simp only [List.map_cons, List.sum_cons, hf x hx]; omega
theorem fi_sum {m : TM} {hs : List Int} {q : List (Int × Int)} (h : FI m hs q) (ns : List ByteArray) (hn : ns.Nodup) : (ns.map (qlen m)).sum ≤ q.length := by
  refine Nat.le_trans (sum_single (qlen m) sA (fun x hx => by simp [qlen, h.po x hx]) ns hn) ?_
  unfold qlen
  by_cases hh : hs = []
  · rw [(h.pe hh).2]; simp
  · obtain ⟨p, hp, hq, -⟩ := h.ps hh
    rw [hp]
    simp [hq]

/-- The first one takes it for itself. -/
theorem fi_first : ∃ m', askM TM.empty 1 sA 4 = (0, m') ∧ FI m' [1] [] ∧ ∃ p, m'.pl sA = some p ∧ p.held 1 = some 4 := by
  have h1 : isM 4 = true := by decide
  have h2 : TM.empty.waits 1 = none := rfl
  have h3 : TM.empty.pl sA = none := rfl
  refine ⟨_, by simp [askM, h1, h2, h3, askTail_empty]; rfl, ⟨by simp, fun u hu => ?_, fun u hu => ?_, (fun x hx => by cases hx), fun u _ => rfl, fun x hx => ?_, (fun h => by cases h), fun _ => ⟨_, hold_pl _ _ _ _ _, rfl, fun u => ?_⟩⟩, ⟨_, hold_pl _ _ _ _ _, by simp⟩⟩
  · simp only [List.mem_singleton] at hu
    subst hu
    simp [TM.hold, TM.newPlace, TM.empty]
  · simp only [List.mem_singleton] at hu
    simp [TM.hold, TM.newPlace, TM.empty, hu]
  · simp [TM.hold, TM.newPlace, TM.empty, hx]
  · by_cases hu : u = 1 <;> simp [PlM.empty, hu]
theorem fi_ask {m : TM} {q : List (Int × Int)} (h : FI m [1] q) (h4 : ∃ p, m.pl sA = some p ∧ p.held 1 = some 4) {o md : Int} (ho : o ∉ [1] ++ q.map (·.1)) (h0 : o ≠ 0) (hm : isM md = true) :
    ∃ m', askM m o sA md = (10, m') ∧ FI m' [1] (q ++ [(o, md)]) ∧ ∃ p, m'.pl sA = some p ∧ p.held 1 = some 4 := by
  obtain ⟨p, hp, hq, hh⟩ := h.ps (by simp)
  obtain ⟨p', hp', hp4⟩ := h4
  rw [hp] at hp'
  cases hp'
  simp only [List.mem_append, List.mem_singleton, not_or] at ho
  have hw := h.wn o ho.2
  have hho : p.held o = none := Classical.byContradiction fun hn => by
    have := (hh o).1 hn
    simp at this; exact ho.1 this
  have hng : ¬ goesP p o md := fun hg => by
    have := hg 1 4 hp4 (fun e => ho.1 e.symm)
    rcases isM_cases hm with rfl | rfl | rfl | rfl <;> revert this <;> decide
  have e : askM m o sA md = (10, m.wait sA p o md) := by
    simp [askM, h0, hm, hw, hp, askTail, hho, hng]
  have hat : p.at o = p.queue.length := by simp [PlM.at, hho]
  have hins : insQ p.queue (p.at o) (o, md) = q ++ [(o, md)] := by rw [hat, insQ_end, hq]
  have hplw : (m.wait sA p o md).pl sA = some { p with queue := insQ p.queue (p.at o) (o, md) } := by simp [TM.wait, TM.addWait, TM.setQ]
  refine ⟨_, e, ⟨?_, fun u hu => ?_, fun u hu => ?_, fun x hx => ?_, fun u hu => ?_, fun x hx => ?_, (fun h => by cases h), fun _ => ⟨_, hplw, hins, fun u => hh u⟩⟩, ⟨_, hplw, hp4⟩⟩
  · have h1 := h.nd
    rw [List.map_append, ← List.append_assoc]
    refine List.nodup_append.2 ⟨h1, by simp, fun a ha b hb => ?_⟩
    simp only [List.map_cons, List.map_nil, List.mem_singleton] at hb
    subst hb
    rintro rfl
    simp only [List.mem_append, List.mem_singleton] at ha
    exact ha.elim ho.1 ho.2
  · exact h.nm u hu
  · exact h.nn u hu
  · simp only [List.mem_append, List.mem_singleton] at hx
    simp only [TM.wait, TM.addWait, TM.setQ]
    rcases hx with hx | rfl
    · have : x.1 ≠ o := fun e => ho.2 (e ▸ List.mem_map_of_mem hx)
      rw [if_neg this]; exact h.wq x hx
    · simp
  · simp only [List.map_append, List.mem_append, List.map_cons, List.map_nil, List.mem_singleton, not_or] at hu
    simp only [TM.wait, TM.addWait, TM.setQ]
    rw [if_neg hu.2]; exact h.wn u hu.1
  · simp only [TM.wait, TM.addWait, TM.setQ]
    rw [if_neg hx]; exact h.po x hx
end Go.Proofs.Ytjnbbmchmkiodaa
