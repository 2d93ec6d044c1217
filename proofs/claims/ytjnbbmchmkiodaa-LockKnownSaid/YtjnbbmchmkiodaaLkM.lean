/- LockMore: one owner asks for one name again and again: the plain law; the walk. -/
import Derived.Test.YtjnbbmchmkiodaaLkL
namespace Go.Proofs.Ytjnbbmchmkiodaa
open Go.RowKit Go.MapKept

theorem and3_i64 (x : Int) : ∃ k : Nat, k < 4 ∧ bits .and .i64 x 3 = (k : Int) := by
  refine ⟨(BitVec.ofInt 64 x).toNat % 4, Nat.mod_lt _ (by decide), ?_⟩
  have e : bits .and .i64 x 3 = IntKind.i64.wrap (((BitVec.ofInt 64 x).toNat &&& 3 : Nat) : Int) := by
    show IntKind.i64.wrap ((BitVec.ofInt 64 x &&& BitVec.ofInt 64 3).toNat : Int) = _
    rw [BitVec.toNat_and]; rfl
  rw [e, show (3 : Nat) = 2 ^ 2 - 1 by decide, Nat.and_two_pow_sub_one_eq_mod, IntKind.wrap_i64]
  omega
theorem mode_isM (x : Int) : isM (wrap64 (1 + bits .and .i64 x 3)) = true := by
  obtain ⟨k, hk, e⟩ := and3_i64 x
  rw [e]
  have : wrap64 (1 + (k : Int)) = 1 + k := by unfold wrap64; omega
  rw [this]
  simp only [isM, decide_eq_true_eq]
  omega

def sN : ByteArray := ⟨#[110]⟩
/-- Owner 1 alone holds the name, in mode h; nobody waits. -/
structure St (m : TM) (h : Int) : Prop where
  pl : ∃ p, m.pl sN = some p ∧ p.queue = [] ∧ ∀ i, p.held i = if i = 1 then some h else none
  w1 : m.waits 1 = none
  w2 : m.waits 2 = none
  nm : ∃ f, m.names 1 = some f ∧ ∀ x, f x = true ↔ x = sN
theorem joinI_isM {a b : Int} (ha : isM a = true) (hb : isM b = true) : isM (joinI a b) = true := by
  rcases isM_cases ha with rfl | rfl | rfl | rfl <;> rcases isM_cases hb with rfl | rfl | rfl | rfl <;> decide
theorem joinI_comm {a b : Int} (ha : isM a = true) (hb : isM b = true) : joinI a b = joinI b a := by
  rcases isM_cases ha with rfl | rfl | rfl | rfl <;> rcases isM_cases hb with rfl | rfl | rfl | rfl <;> decide
theorem joinI_assoc {a b c : Int} (ha : isM a = true) (hb : isM b = true) (hc : isM c = true) : joinI a (joinI b c) = joinI (joinI a b) c := by
  rcases isM_cases ha with rfl | rfl | rfl | rfl <;> rcases isM_cases hb with rfl | rfl | rfl | rfl <;> rcases isM_cases hc with rfl | rfl | rfl | rfl <;> decide
theorem joinI_again {a b c : Int} (ha : isM a = true) (hb : isM b = true) (hc : isM c = true) : joinI (joinI (joinI a b) c) a = joinI (joinI a b) c := by
  rcases isM_cases ha with rfl | rfl | rfl | rfl <;> rcases isM_cases hb with rfl | rfl | rfl | rfl <;> rcases isM_cases hc with rfl | rfl | rfl | rfl <;> decide

theorem st_first {x : Int} (hx : isM x = true) : ∃ m', askM TM.empty 1 sN x = (0, m') ∧ St m' x := by
  have h2 : TM.empty.waits 1 = none := rfl
  have h3 : TM.empty.pl sN = none := rfl
  refine ⟨_, by simp [askM, hx, h2, h3, askTail_empty]; rfl, ⟨_, hold_pl _ _ _ _ _, rfl, fun i => ?_⟩, rfl, rfl, ?_⟩
  · simp [PlM.empty]
  · refine ⟨_, by simp [TM.hold]; rfl, fun y => ?_⟩
    simp [TM.newPlace, TM.empty]
theorem st_ask {m : TM} {h y : Int} (S : St m h) (hy : isM y = true) : ∃ m', askM m 1 sN y = (0, m') ∧ St m' (joinI h y) := by
  obtain ⟨⟨p, hp, hq, hh⟩, w1, w2, f, hf, hfs⟩ := S
  have hh1 : p.held 1 = some h := by rw [hh]; rfl
  by_cases hj : joinI h y = h
  · exact ⟨m, by simp [askM, hy, w1, hp, askTail, hh1, hj], ⟨p, hp, hq, by rw [hj]; exact hh⟩, w1, w2, f, hf, hfs⟩
  · have hg : goesP p 1 (joinI h y) := fun u md hu hne => by rw [hh, if_neg hne] at hu; cases hu
    refine ⟨_, by simp [askM, hy, w1, hp, askTail, hh1, hj, hg]; rfl, ⟨_, hold_pl _ _ _ _ _, hq, fun i => ?_⟩, w1, w2, ?_⟩
    · simp only [hh]; by_cases hi : i = 1 <;> simp [hi]
    · refine ⟨_, by simp [TM.hold, hf]; rfl, fun x => ?_⟩
      simp [hfs x]
theorem st_other {m : TM} {h y : Int} (S : St m h) (hy : isM y = true) : (askM m 2 sN y).1 = if togB h y = true then 0 else 10 := by
  obtain ⟨⟨p, hp, hq, hh⟩, w1, w2, f, hf, hfs⟩ := S
  have hh2 : p.held 2 = none := by rw [hh]; rfl
  have hg : goesP p 2 y ↔ togB h y = true := by
    constructor
    · intro g; exact g 1 h (by rw [hh]; rfl) (by decide)
    · intro ht u md hu hne
      rw [hh] at hu
      split at hu
      · cases hu; exact ht
      · cases hu
  by_cases ht : togB h y = true
  · simp [askM, hy, w2, hp, askTail, hh2, hq, hg, ht]
  · simp [askM, hy, w2, hp, askTail, hh2, hq, hg, ht]

section
variable {w : World} {tb : Nat} {m : TM} {L : TL} {ρ : Nat → Role}
def StR (w : World) (tb : Nat) (h : Int) (ρ : Nat → Role) (e : Ending) (w' : World) : Prop := e = .returned (.int .i64 0) ∧ ∃ m' L' ρ', Tab w' tb m' L' ρ' ∧ St m' h ∧ TOwn w ρ w' ρ'
theorem first_calls (hT : Tab w tb TM.empty L ρ) {x : Int} (hx : isM x = true) :
    Calls Try.prog 17 #[.pointer (some ⟨tb, 0, none⟩), .int .u64 1, .string sN, .int .i64 x] w (StR w tb x ρ) := by
  obtain ⟨m', e, hS⟩ := st_first hx
  refine (ask_calls hT 1 sN x (fun p hp => by cases hp) (fun p hp => by cases hp)).mono ?_
  rw [e]
  rintro e w' ⟨rfl, L', ρ', hT', hO⟩
  exact ⟨rfl, m', L', ρ', hT', hS, hO⟩
theorem again_calls (hT : Tab w tb m L ρ) {h y : Int} (S : St m h) (hy : isM y = true) :
    Calls Try.prog 17 #[.pointer (some ⟨tb, 0, none⟩), .int .u64 1, .string sN, .int .i64 y] w (StR w tb (joinI h y) ρ) := by
  obtain ⟨m', e, hS⟩ := st_ask S hy
  obtain ⟨p0, hp0, hq0, -⟩ := S.pl
  refine (ask_calls hT 1 sN y (fun p hp _ => by rw [hp0] at hp; cases hp; rw [hq0]; rfl) (fun p hp => by rw [hp0] at hp; cases hp; rw [hq0]; simp)).mono ?_
  rw [e]
  rintro e w' ⟨rfl, L', ρ', hT', hO⟩
  exact ⟨rfl, m', L', ρ', hT', hS, hO⟩
theorem other_calls (hT : Tab w tb m L ρ) {h y : Int} (S : St m h) (hy : isM y = true) :
    Calls Try.prog 17 #[.pointer (some ⟨tb, 0, none⟩), .int .u64 2, .string sN, .int .i64 y] w fun e w' => e = .returned (.int .i64 (if togB h y = true then 0 else 10)) ∧ ∃ ρ', TOwn w ρ w' ρ' := by
  obtain ⟨p0, hp0, hq0, -⟩ := S.pl
  refine (ask_calls hT 2 sN y (fun p hp _ => by rw [hp0] at hp; cases hp; rw [hq0]; rfl) (fun p hp => by rw [hp0] at hp; cases hp; rw [hq0]; simp)).mono ?_
  rintro e w' ⟨he, L', ρ', -, hO⟩
  rw [st_other S hy] at he
  exact ⟨he, ρ', hO⟩
theorem heldst_calls (hT : Tab w tb m L ρ) {h : Int} (S : St m h) :
    Calls Try.prog 18 #[.pointer (some ⟨tb, 0, none⟩), .int .u64 1] w fun e w' => ∃ g, e = .returned (.slice (some ⟨g, 0, none⟩) 1 1) ∧ w'.cell? ⟨g, 0, none⟩ = some (.string sN) ∧ w'.cell? ⟨g, 1, none⟩ = some (.int .i64 h) ∧ Chg NoB w w' := by
  obtain ⟨p, hp, -, hh⟩ := S.pl
  obtain ⟨f, hf, hfs⟩ := S.nm
  exact held_one hT 1 sN hf hfs hp (by rw [hh]; rfl) (by decide)
end

set_option maxHeartbeats 1000000 in
set_option maxRecDepth 100000 in
theorem more_walk (w : World) (a b c : Int) : Calls Try.prog 4 #[.int .i64 a, .int .i64 b, .int .i64 c] w fun e w' => e = .returned (.bool true) ∧ Chg NoB w w' := by
  go_enter Try.func4, Try.ntmps4
  go_wp2_with fail
  refine (awake_calls w).mono ?_
  rintro e w1 ⟨rfl, hc1⟩
  go_wp2_with fail
  refine (new_tab w1).mono ?_
  rintro e w2 ⟨rfl, hT, hc2⟩
  have HT := hide hT; clear hT
  go_wp2_with fail
  have hx := mode_isM a
  have hy := mode_isM b
  have hz := mode_isM c
  generalize wrap64 (1 + bits .and .i64 a 3) = x at hx ⊢
  generalize wrap64 (1 + bits .and .i64 b 3) = y at hy ⊢
  generalize wrap64 (1 + bits .and .i64 c 3) = z at hz ⊢
  refine (first_calls HT.out hx).mono ?_
  rintro e w3 ⟨rfl, m3, L3, ρ3, hT3, hS3, hO3⟩
  have HT3 := hide hT3; have HS3 := hide hS3; clear hT3 hS3
  go_wp2_with fail
  refine (again_calls HT3.out HS3.out hy).mono ?_
  rintro e w4 ⟨rfl, m4, L4, ρ4, hT4, hS4, hO4⟩
  have HT4 := hide hT4; have HS4 := hide hS4; clear hT4 hS4
  go_wp2_with fail
  refine (again_calls HT4.out HS4.out hz).mono ?_
  rintro e w5 ⟨rfl, m5, L5, ρ5, hT5, hS5, hO5⟩
  have HT5 := hide hT5; have HS5 := hide hS5; clear hT5 hS5
  go_wp2_with fail
  refine (again_calls HT5.out HS5.out hx).mono ?_
  rintro e w6 ⟨rfl, m6, L6, ρ6, hT6, hS6, hO6⟩
  rw [joinI_again hx hy hz] at hS6
  have HT6 := hide hT6; have HS6 := hide hS6; clear hT6 hS6
  have HOW := hide (((hO3.trans hO4).trans hO5).trans hO6)
  clear hO3 hO4 hO5 hO6
  go_wp2_with fail
  refine (heldst_calls HT6.out HS6.out).mono ?_
  rintro e w7 ⟨g, rfl, k0, k1, hc7⟩
  have HT7 := hide (HT6.out.chg0 hc7)
  have HJ := hide join_calls
  have h1 := joinI_isM hx hy
  have h2 := joinI_isM hy hz
  have ha := joinI_assoc hx hy hz
  have hcm := joinI_comm hx hy
  have HJ1 : Hid (∀ W, Calls Try.prog 14 #[.int .i64 x, .int .i64 y] W fun e w' => e = .returned (.int .i64 (joinI x y)) ∧ W = w') := hide (join_calls x y)
  have HJ2 : Hid (∀ W, Calls Try.prog 14 #[.int .i64 (joinI x y), .int .i64 z] W fun e w' => e = .returned (.int .i64 (joinI (joinI x y) z)) ∧ W = w') := hide (join_calls _ z)
  have HJ3 : Hid (∀ W, Calls Try.prog 14 #[.int .i64 y, .int .i64 z] W fun e w' => e = .returned (.int .i64 (joinI y z)) ∧ W = w') := hide (join_calls y z)
  have HJ4 : Hid (∀ W, Calls Try.prog 14 #[.int .i64 x, .int .i64 (joinI y z)] W fun e w' => e = .returned (.int .i64 (joinI (joinI x y) z)) ∧ W = w') := hide (by rw [← ha]; exact join_calls x _)
  have HJ5 : Hid (∀ W, Calls Try.prog 14 #[.int .i64 y, .int .i64 x] W fun e w' => e = .returned (.int .i64 (joinI x y)) ∧ W = w') := hide (by rw [hcm]; exact join_calls y x)
  have HO := hide (other_calls HT7.out HS6.out hy)
  have HTG := hide (together_calls (joinI (joinI x y) z) y)
  clear HJ ha hcm
  generalize joinI (joinI x y) z = want at *
  generalize joinI x y = xy at *
  generalize joinI y z = yz at *
  have ew : (want != want) = false := by simp
  have exy : (xy != xy) = false := by simp
  go_wp2_with fail
  refine (HJ1.out _).mono ?_
  rintro e W ⟨rfl, rfl⟩
  go_wp2_with fail
  refine (HJ2.out _).mono ?_
  rintro e W ⟨rfl, rfl⟩
  go_wp2_with fail
  refine (HJ3.out _).mono ?_
  rintro e W ⟨rfl, rfl⟩
  go_wp2_with fail
  refine (HJ4.out _).mono ?_
  rintro e W ⟨rfl, rfl⟩
  go_wp2_with fail
  refine (HJ1.out _).mono ?_
  rintro e W ⟨rfl, rfl⟩
  go_wp2_with fail
  refine (HJ5.out _).mono ?_
  rintro e W ⟨rfl, rfl⟩
  go_wp2_with fail
  refine HO.out.mono ?_
  rintro e w8 ⟨rfl, ρ8, hO8⟩
  have hfin : ∀ w9, Chg NoB w8 w9 → Chg NoB w w9 := fun w9 h9 => by
    have hA := (HOW.out.trans (TOwn.same hc7)).trans hO8
    refine ((hc1.trans hc2).trans' hA.chg (fun i hi => .inr ?_)).trans h9
    have hi : roleNew w1.heap.size i ≠ .none := hi
    have := hc1.size
    unfold roleNew at hi
    repeat' split at hi
    all_goals first | omega | exact absurd rfl hi
  have HF := hide hfin; clear hfin
  generalize togB want y = t at HTG ⊢
  cases t
  · rw [if_neg (by decide)]
    go_wp2_with fail
    refine (HTG.out _).mono ?_
    rintro e w9 ⟨rfl, hc9⟩
    go_wp2_with fail
    go_ret
    exact ⟨rfl, HF.out _ hc9⟩
  · rw [if_pos rfl]
    go_wp2_with fail
    refine (HTG.out _).mono ?_
    rintro e w9 ⟨rfl, hc9⟩
    go_wp2_with fail
    go_ret
    exact ⟨rfl, HF.out _ hc9⟩
end Go.Proofs.Ytjnbbmchmkiodaa
