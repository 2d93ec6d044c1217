/- LockFair: the walk. -/
import Derived.Test.YtjnbbmchmkiodaaLkT
import Derived.IntWalk
namespace Go.Proofs.Ytjnbbmchmkiodaa
open Go.RowKit Go.MapKept

section
variable {w : World} {tb : Nat} {m : TM} {L : TL} {ρ : Nat → Role} {hs : List Int} {q : List (Int × Int)}
def h4 (m : TM) : Prop := ∃ p, m.pl sA = some p ∧ p.held 1 = some 4
def FairA (w : World) (tb : Nat) (ρ : Nat → Role) (r : Int) (hs : List Int) (q : List (Int × Int)) (e : Ending) (w' : World) : Prop := e = .returned (.int .i64 r) ∧ ∃ m' L' ρ', Tab w' tb m' L' ρ' ∧ FI m' hs q ∧ h4 m' ∧ TOwn w ρ w' ρ'
def FairF (w : World) (tb : Nat) (ρ : Nat → Role) (hs : List Int) (q : List (Int × Int)) (e : Ending) (w' : World) : Prop :=
  ∃ k v m' L' ρ', e = .returned v ∧ Rw w w' ρ' v ((q.take k).map (·.1)) ∧ Tab w' tb m' L' ρ' ∧ FI m' (hs ++ (q.take k).map (·.1)) (q.drop k) ∧ TOwn w ρ w' ρ'
theorem fair_first (hT : Tab w tb TM.empty L ρ) : Calls Try.prog 17 #[.pointer (some ⟨tb, 0, none⟩), .int .u64 1, .string sA, .int .i64 4] w (FairA w tb ρ 0 [1] []) := by
  obtain ⟨m', e, hF, hh⟩ := fi_first
  refine (ask_calls hT 1 sA 4 (fun p hp => by cases hp) (fun p hp => by cases hp)).mono ?_
  rw [e]
  rintro e w' ⟨rfl, L', ρ', hT', hO⟩
  exact ⟨rfl, m', L', ρ', hT', hF, hh, hO⟩
theorem fair_ask (hT : Tab w tb m L ρ) (hF : FI m [1] q) (hh : h4 m) (hq : q.length ≤ 10000000000) (o md : Int) (ho : o ∉ [1] ++ q.map (·.1)) (h0 : o ≠ 0) (hm : isM md = true) :
    Calls Try.prog 17 #[.pointer (some ⟨tb, 0, none⟩), .int .u64 o, .string sA, .int .i64 md] w (FairA w tb ρ 10 [1] (q ++ [(o, md)])) := by
  obtain ⟨m', e, hF', hh'⟩ := fi_ask hF hh ho h0 hm
  obtain ⟨p, hp, hpq, hps⟩ := hF.ps (by simp)
  have hno : (p.held o).isSome = false := by
    cases hpo : p.held o with
    | none => rfl
    | some z =>
      have := (hps o).1 (by rw [hpo]; simp)
      exact absurd (by simp only [List.mem_append]; exact .inl this) ho
  refine (ask_calls hT o sA md (fun p' hp' hs => by rw [hp] at hp'; cases hp'; rw [hno] at hs; cases hs) (fun p' hp' => by rw [hp] at hp'; cases hp'; rw [hpq]; exact hq)).mono ?_
  rw [e]
  rintro e w' ⟨rfl, L', ρ', hT', hO⟩
  exact ⟨rfl, m', L', ρ', hT', hF', hh', hO⟩
theorem fair_free (hT : Tab w tb m L ρ) (hF : FI m hs q) (o : Int) (ho : o ∈ hs) (hq : q.length ≤ 5000000000000) :
    Calls Try.prog 19 #[.pointer (some ⟨tb, 0, none⟩), .int .u64 o] w (FairF w tb ρ (hs.erase o) q) := by
  have hne : hs ≠ [] := fun e => by rw [e] at ho; cases ho
  obtain ⟨p, hp, hpq, hps⟩ := hF.ps hne
  refine (free_calls hT o [sA] (fun x hx => ?_) (by simp) (fun x hx => ?_) (fun ns hn => Nat.le_trans (fi_sum hF ns hn) hq)).mono ?_
  · rw [(fi_touched hF ho x).1 hx]; exact ⟨by simp, by decide⟩
  · rw [(fi_touched hF ho x).1 hx]; exact ⟨p, hp⟩
  · rintro e w' ⟨ns, a, c, L', ρ', hnd, hmem, -, rfl, hrow, hb, hT', hO⟩
    have hns : ns = [sA] := ns_one hnd (fun x => (hmem x).trans (fi_touched hF ho x))
    subst hns
    obtain ⟨k, e1, e2⟩ := fi_free hF ho
    rw [e1] at hrow ⊢
    exact ⟨k, _, _, L', ρ', rfl, ⟨a, c, rfl, hrow, hb⟩, hT', e2, hO⟩
end
theorem and3_u8 (x : Int) : ∃ k : Nat, k < 4 ∧ bits .and .u8 x 3 = (k : Int) := by
  refine ⟨(BitVec.ofInt 8 x).toNat % 4, Nat.mod_lt _ (by decide), ?_⟩
  have e : bits .and .u8 x 3 = IntKind.u8.wrap (((BitVec.ofInt 8 x).toNat &&& 3 : Nat) : Int) := by
    show IntKind.u8.wrap ((BitVec.ofInt 8 x &&& BitVec.ofInt 8 3).toNat : Int) = _
    rw [BitVec.toNat_and]; rfl
  rw [e, show (3 : Nat) = 2 ^ 2 - 1 by decide, Nat.and_two_pow_sub_one_eq_mod]
  have hb := Nat.mod_lt (BitVec.ofInt 8 x).toNat (show 0 < 2 ^ 2 by decide)
  generalize (BitVec.ofInt 8 x).toNat % 2 ^ 2 = z at hb ⊢
  simp only [IntKind.wrap, IntKind.bits, IntKind.signed]
  simp
  omega
theorem mode8_isM (x : Int) : isM (wrap64 (1 + wrap64 (bits .and .u8 x 3))) = true := by
  obtain ⟨k, hk, e⟩ := and3_u8 x
  rw [e]
  have : wrap64 (1 + wrap64 (k : Int)) = 1 + k := by unfold wrap64; omega
  rw [this]
  simp only [isM, decide_eq_true_eq]
  omega
def wants (i : Nat) : List Int := (List.range i).map fun j => ((2 + j : Nat) : Int)
theorem wants_length (i : Nat) : (wants i).length = i := by simp [wants]
theorem wants_succ (i : Nat) : wants (i + 1) = wants i ++ [((2 + i : Nat) : Int)] := by simp [wants, List.range_succ]
theorem wants_mem {i : Nat} {x : Int} (h : x ∈ wants i) : 2 ≤ x ∧ x < 2 + i := by
  simp only [wants, List.mem_map, List.mem_range] at h
  obtain ⟨j, hj, rfl⟩ := h
  omega
/-- While the owners ask. -/
structure FairL (w wr : World) (tb : Nat) (i : Nat) (wv : Value) (m : TM) (L : TL) (ρ : Nat → Role) (q : List (Int × Int)) : Prop where
  tab : Tab wr tb m L ρ
  chg : Chg NoB w wr
  new : ∀ k, ρ k ≠ .none → w.heap.size ≤ k
  fi : FI m [1] q
  h4 : h4 m
  qs : q.map (·.1) = wants i
  row : Rw w wr ρ wv (wants i)

end Go.Proofs.Ytjnbbmchmkiodaa
