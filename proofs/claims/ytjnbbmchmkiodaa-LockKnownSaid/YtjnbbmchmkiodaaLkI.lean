/- Ask, whatever is asked for; awake. -/
import Derived.Test.YtjnbbmchmkiodaaLkH
namespace Go.Proofs.Ytjnbbmchmkiodaa
open Go.RowKit Go.MapKept

theorem goesP_empty (o md : Int) : goesP PlM.empty o md := fun u m hu => by cases hu
theorem askTail_empty (m : TM) (o : Int) (s : ByteArray) (md : Int) : askTail m o s md PlM.empty = (0, m.hold s PlM.empty o md) := by
  have h1 : PlM.empty.held o = none := rfl
  have h2 : PlM.empty.queue = [] := rfl
  simp only [askTail, h1, h2, goesP_empty, and_self, if_true]

theorem ask_calls {w : World} {tb : Nat} {m : TM} {L : TL} {ρ : Nat → Role} (h : Tab w tb m L ρ) (o : Int) (s : ByteArray) (md : Int)
    (hend : ∀ p, m.pl s = some p → (p.held o).isSome → p.queue.findIdx? (idleB p) = none) (hq : ∀ p, m.pl s = some p → p.queue.length ≤ 10000000000) :
    Calls Try.prog 17 #[.pointer (some ⟨tb, 0, none⟩), .int .u64 o, .string s, .int .i64 md] w (AskR w tb (askM m o s md) ρ) := by
  by_cases hb : o = 0 ∨ isM md = false
  · exact ask_refused h o s md hb
  · have h0 : ¬ o = 0 := fun e => hb (.inl e)
    have e1 : isM md = true := by simpa using fun e => hb (.inr e)
    cases hw : m.waits o with
    | some g => exact ask_waits h o s md h0 e1 hw
    | none =>
      cases hp : m.pl s with
      | some p =>
        have e : askM m o s md = askTail m o s md p := by simp [askM, hb, hw, hp]
        rw [e]
        exact ask_old h o s md h0 e1 hw p hp (hend p hp) (hq p hp)
      | none =>
        have e : askM m o s md = (0, (m.newPlace s).hold s PlM.empty o md) := by simp [askM, hb, hw, hp, askTail_empty]
        rw [e]
        exact ask_new h o s md h0 e1 hw hp

/-- Of one name, for one that waits for nothing. -/
def TM.at (m : TM) (s : ByteArray) (p : PlM) : Prop := m.pl s = some p
theorem hold_pl (m : TM) (s : ByteArray) (p : PlM) (o md : Int) : (m.hold s p o md).pl s = some { p with held := fun i => if i = o then some md else p.held i } := by simp [TM.hold]
theorem hold_waits (m : TM) (s : ByteArray) (p : PlM) (o md : Int) : (m.hold s p o md).waits = m.waits := rfl

def sA : ByteArray := ⟨#[97]⟩
def awA : PlM := ⟨fun i => if i = 1 then some 3 else none, []⟩
def awB : PlM := ⟨fun i => if i = 2 then some 3 else if i = 1 then some 3 else none, []⟩
noncomputable def aw1 : TM := (TM.empty.newPlace sA).hold sA PlM.empty 1 3
noncomputable def aw2 : TM := aw1.hold sA awA 2 3
theorem aw1_pl : aw1.pl sA = some awA := by simp [aw1, hold_pl, awA, PlM.empty]
theorem aw2_pl : aw2.pl sA = some awB := by simp only [aw2, hold_pl, awA, awB]
theorem aw_ask1 : askM TM.empty 1 sA 3 = (0, aw1) := by
  have h1 : isM 3 = true := by decide
  have h2 : TM.empty.waits 1 = none := rfl
  have h3 : TM.empty.pl sA = none := rfl
  simp [askM, h1, h2, h3, askTail_empty, aw1]
theorem aw_ask2 : askM aw1 2 sA 3 = (0, aw2) := by
  have h1 : isM 3 = true := by decide
  have h2 : aw1.waits 2 = none := rfl
  have h4 : awA.held 2 = none := rfl
  have h5 : awA.queue = [] := rfl
  have h6 : goesP awA 2 3 := fun u m hu hne => by
    simp only [awA] at hu
    split at hu
    · cases hu; decide
    · cases hu
  simp [askM, h1, h2, aw1_pl, askTail, h4, h5, h6, aw2]
theorem aw_ask3 : (askM aw2 1 sA 4).1 = 10 := by
  have h1 : isM 4 = true := by decide
  have h2 : aw2.waits 1 = none := rfl
  have h4 : awB.held 1 = some 3 := rfl
  have hj : joinI 3 4 = 4 := by decide
  have h6 : ¬ goesP awB 1 4 := fun h => by
    have := h 2 3 rfl (by decide)
    revert this; decide
  simp [askM, h1, h2, aw2_pl, askTail, h4, hj, h6]

theorem aw_c1 {w : World} {tb : Nat} {L : TL} {ρ : Nat → Role} (h : Tab w tb TM.empty L ρ) : Calls Try.prog 17 #[.pointer (some ⟨tb, 0, none⟩), .int .u64 1, .string sA, .int .i64 3] w (AskR w tb (0, aw1) ρ) := by
  rw [← aw_ask1]
  exact ask_calls h 1 sA 3 (fun p hp => by cases hp) (fun p hp => by cases hp)
theorem aw_c2 {w : World} {tb : Nat} {L : TL} {ρ : Nat → Role} (h : Tab w tb aw1 L ρ) : Calls Try.prog 17 #[.pointer (some ⟨tb, 0, none⟩), .int .u64 2, .string sA, .int .i64 3] w (AskR w tb (0, aw2) ρ) := by
  rw [← aw_ask2]
  exact ask_calls h 2 sA 3 (fun p hp _ => by rw [aw1_pl] at hp; cases hp; rfl) (fun p hp => by rw [aw1_pl] at hp; cases hp; simp [awA])
theorem aw_c3 {w : World} {tb : Nat} {L : TL} {ρ : Nat → Role} (h : Tab w tb aw2 L ρ) : Calls Try.prog 17 #[.pointer (some ⟨tb, 0, none⟩), .int .u64 1, .string sA, .int .i64 4] w fun e w' => e = .returned (.int .i64 10) ∧ ∃ ρ', TOwn w ρ w' ρ' := by
  refine (ask_calls h 1 sA 4 (fun p hp _ => by rw [aw2_pl] at hp; cases hp; rfl) (fun p hp => by rw [aw2_pl] at hp; cases hp; simp [awB])).mono ?_
  rintro e w' ⟨he, L', ρ', -, hO⟩
  rw [aw_ask3] at he
  exact ⟨he, ρ', hO⟩

set_option maxHeartbeats 1000000 in
set_option maxRecDepth 100000 in
theorem awake_calls (w : World) : Calls Try.prog 11 #[] w fun e w' => e = .returned (.bool true) ∧ Chg NoB w w' := by
  go_enter Try.func11, Try.ntmps11
  go_wp2_with fail
  refine (new_tab w).mono ?_
  rintro e w1 ⟨rfl, hT, hc1⟩
  have HT := hide hT; clear hT
  go_wp2_with fail
  refine (aw_c1 HT.out).mono ?_
  rintro e w2 ⟨rfl, L2, ρ2, hT2, hO2⟩
  have HT2 := hide hT2; clear hT2
  go_wp2_with fail
  refine (aw_c2 HT2.out).mono ?_
  rintro e w3 ⟨rfl, L3, ρ3, hT3, hO3⟩
  have HT3 := hide hT3; clear hT3
  go_wp2_with fail
  refine (aw_c3 HT3.out).mono ?_
  rintro e w4 ⟨rfl, ρ4, hO4⟩
  go_wp2_with fail
  go_ret
  refine ⟨rfl, hc1.trans' ((hO2.trans hO3).trans hO4).chg (fun i hi => .inr ?_)⟩
  have hi : roleNew w.heap.size i ≠ .none := hi
  unfold roleNew at hi
  repeat' split at hi
  all_goals first | omega | exact absurd rfl hi

set_option maxHeartbeats 1000000 in
set_option maxRecDepth 100000 in
theorem modes_walk (w : World) (a b : Int) : Calls Try.prog 3 #[.int .i64 a, .int .i64 b] w fun e w' => e = .returned (.bool true) ∧ Chg NoB w w' := by
  go_enter Try.func3, Try.ntmps3
  go_wp2_with fail
  refine (awake_calls w).mono ?_
  rintro e w1 ⟨rfl, hc1⟩
  have H1 := hide (fun w => together_calls a b w)
  have H2 := hide (fun w => rtog_calls a b w)
  have H3 := hide (fun w => join_calls a b w)
  have H4 := hide (fun w => rjoin_calls a b w)
  generalize togB a b = t at H1 H2
  generalize joinI a b = j at H3 H4
  have et : (t == t) = true := by simp
  have ej : (j == j) = true := by simp
  go_wp2_with fail
  refine (H1.out w1).mono ?_
  rintro e w2 ⟨rfl, hc2⟩
  go_wp2_with fail
  refine (H2.out w2).mono ?_
  rintro e w3 ⟨rfl, hc3⟩
  go_wp2_with fail
  refine (H3.out w3).mono ?_
  rintro e w4 ⟨rfl, rfl⟩
  go_wp2_with fail
  refine (H4.out w3).mono ?_
  rintro e w5 ⟨rfl, rfl⟩
  go_wp2_with fail
  go_ret
  exact ⟨rfl, (hc1.trans hc2).trans hc3⟩
end Go.Proofs.Ytjnbbmchmkiodaa
