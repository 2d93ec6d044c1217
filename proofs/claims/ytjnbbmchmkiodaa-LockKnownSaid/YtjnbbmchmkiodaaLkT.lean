/- Rows of numbers beside a table; numbers: are two lists the same? -/
import Derived.Test.YtjnbbmchmkiodaaLkS
import Derived.Deep.QuietTactic
import Derived.BigQuiet
namespace Go.Proofs.Ytjnbbmchmkiodaa
open Go.RowKit Go.MapKept

/-- A row of numbers in blocks that no table has, made since w. -/
def Rw (w wr : World) (ρ : Nat → Role) (v : Value) (xs : List Int) : Prop :=
  ∃ a c, v = .slice a xs.length c ∧ wr.ownsRow 0 29 1 (.slice a xs.length c) xs.length (xs.map (Value.int .u64)) ∧ ∀ b, a = some b → w.heap.size ≤ b.block ∧ ρ b.block = .none
def apart (v u : Value) : Prop := ∀ a n c b m d, v = .slice (some a) n c → u = .slice (some b) m d → a.block ≠ b.block
theorem apart.symm {v u : Value} (h : apart v u) : apart u v := fun a n c b m d h1 h2 e => h b m d a n c h2 h1 e.symm
theorem apart.nil (v : Value) : apart v (.slice none 0 0) := fun a n c b m d _ h => by cases h
theorem apart.nil' (v : Value) : apart (.slice none 0 0) v := (apart.nil v).symm
section
variable {w wx wy : World} {ρ ρ' : Nat → Role} {tb : Nat} {m : TM} {L : TL} {v u : Value} {xs ys : List Int}
theorem Rw.nil (w wr : World) (ρ : Nat → Role) : Rw w wr ρ (.slice none 0 0) [] := ⟨none, 0, rfl, World.ownsRow_nil _ _ _ 1, fun b e => by cases e⟩
theorem Rw.go (h : Rw w wx ρ v xs) (hO : TOwn wx ρ wy ρ') : Rw w wy ρ' v xs := by
  obtain ⟨a, c, hv, hr, hb⟩ := h
  refine ⟨a, c, hv, ownsRow_chg hr hO.chg (fun b e hk => hk (hb b e).2), fun b e => ?_⟩
  subst e
  exact ⟨(hb b rfl).1, role_old hO (hb b rfl).2 (row_lt hr)⟩
theorem Rw.new (h : Rw w wx ρ v xs) (hc : Chg NoB wx wy) : Rw w wy ρ v xs := h.go (TOwn.same hc)
theorem Rw.lt (h : Rw w wx ρ v xs) {a : Addr} {n c : Nat} (hv : v = .slice (some a) n c) : a.block < wx.heap.size ∧ w.heap.size ≤ a.block ∧ ρ a.block = .none := by
  obtain ⟨a', c', rfl, hr, hb⟩ := h
  simp only [Value.slice.injEq] at hv
  obtain ⟨rfl, _, _⟩ := hv
  exact ⟨row_lt hr, hb _ rfl⟩
/-- What an append to another row leaves. -/
theorem Rw.other {a : Option Addr} {n c : Nat} (h : Rw w wx ρ u ys) (hap : apart (.slice a n c) u) (hc : Chg (fun k => ∃ b, a = some b ∧ b.block = k) wx wy) : Rw w wy ρ u ys := by
  obtain ⟨a', c', hv, hr, hb⟩ := h
  refine ⟨a', c', hv, ownsRow_chg hr hc (fun b e hk => ?_), hb⟩
  obtain ⟨b0, h1, h2⟩ := hk
  subst h1 e
  exact hap b0 n c b _ _ rfl hv h2
theorem Rw.app {a a' : Option Addr} {c c' k : Nat} (h : Rw w wx ρ (.slice a xs.length c) xs) (hfr : ∀ i, wx.heap.size ≤ i → ρ i = .none) (hsz : w.heap.size ≤ wx.heap.size) (hk : k = ys.length) (hr : wy.ownsRow 0 29 1 (.slice a' (xs.length + k) c') (xs.length + k) (xs.map (Value.int .u64) ++ ys.map (Value.int .u64)))
    (hn : ∀ k, (∃ b, a' = some b ∧ b.block = k) → (∃ b, a = some b ∧ b.block = k) ∨ wx.heap.size ≤ k) : Rw w wy ρ (.slice a' (xs.length + k) c') (xs ++ ys) := by
  subst hk
  refine ⟨a', c', by rw [List.length_append], by simpa using hr, fun b e => ?_⟩
  rcases hn b.block ⟨b, e, rfl⟩ with ⟨b0, h1, h2⟩ | h1
  · subst h1
    have := h.lt rfl
    rw [← h2]; exact this.2
  · exact ⟨Nat.le_trans hsz h1, hfr _ h1⟩
theorem apart.app {a a' : Option Addr} {n c n' c' : Nat} (hap : apart (.slice a n c) u) (hu : Rw w wx ρ u ys) (hn : ∀ k, (∃ b, a' = some b ∧ b.block = k) → (∃ b, a = some b ∧ b.block = k) ∨ wx.heap.size ≤ k) : apart (.slice a' n' c') u := by
  intro x n1 c1 y n2 c2 h1 h2 he
  simp only [Value.slice.injEq] at h1
  obtain ⟨rfl, _, _⟩ := h1
  rcases hn x.block ⟨x, rfl, rfl⟩ with ⟨b0, e1, e2⟩ | e1
  · subst e1
    exact hap b0 n c y n2 c2 rfl h2 (e2.trans he)
  · have := (hu.lt h2).1
    omega
end

theorem apart_new {w wr wx : World} {ρ ρ' : Nat → Role} {u v : Value} {xs ys : List Int} (hu : Rw w wr ρ u ys) (hv : Rw wr wx ρ' v xs) : apart u v := fun a n c b m d h1 h2 e => by
  have := (hu.lt h1).1
  have := (hv.lt h2).2.1
  omega
theorem Rw.form {w wr : World} {ρ : Nat → Role} {v : Value} {xs : List Int} (h : Rw w wr ρ v xs) : ∃ a c, v = .slice a xs.length c ∧ wr.ownsRow 0 29 1 (.slice a xs.length c) xs.length (xs.map (Value.int .u64)) := by
  obtain ⟨a, c, h1, h2, -⟩ := h
  exact ⟨a, c, h1, h2⟩
theorem Rw.mono {w w1 wr : World} {ρ : Nat → Role} {v : Value} {xs : List Int} (h : Rw w1 wr ρ v xs) (hs : w.heap.size ≤ w1.heap.size) : Rw w wr ρ v xs := by
  obtain ⟨a, c, h1, h2, h3⟩ := h
  exact ⟨a, c, h1, h2, fun b e => ⟨Nat.le_trans hs (h3 b e).1, (h3 b e).2⟩⟩
set_option maxHeartbeats 1000000 in
set_option maxRecDepth 100000 in
theorem numbers_calls {w : World} {a b : Option Addr} {c d : Nat} {xs ys : List Int} (hx : w.ownsRow 0 29 1 (.slice a xs.length c) xs.length (xs.map (Value.int .u64))) (hy : w.ownsRow 0 29 1 (.slice b ys.length d) ys.length (ys.map (Value.int .u64))) (hm : xs.length ≤ 4611686018427387904) (r : Bool) (hr : r = decide (xs = ys)) :
    Calls Try.prog 20 #[.slice a xs.length c, .slice b ys.length d] w fun e w' => e = .returned (.bool r) ∧ Chg NoB w w' := by
  have HR := hide hr; clear hr
  by_cases hl : xs.length = ys.length
  · have e0 : (((xs.length : Nat) : Int) != (ys.length : Int)) = false := by simp [hl]
    have HL := hide hl; have HX := hide hx; have HY := hide hy; clear hl hx hy
    go_enter Try.func20, Try.ntmps20
    go_wp2_with fail
    go_loopw [5] (fun v wr => ∃ i : Nat, i ≤ xs.length ∧ v = .int .i64 i ∧ Chg NoB w wr ∧ xs.take i = ys.take i) (fun v _ => xs.length - (intOf v).toNat)
    case atStart => exact ⟨0, Nat.zero_le _, rfl, Chg.refl _ _, by simp⟩
    case round =>
      obtain ⟨i, hi, rfl, hc, ht⟩ := hrel
      have HC := hide hc; have HT := hide ht; clear hc ht
      by_cases hlt : i < xs.length
      · have hlt2 : i < ys.length := by have := HL.out; omega
        obtain ⟨g, rfl, hg, hcx⟩ := row_cells HX.out (by omega)
        obtain ⟨g2, rfl, hg2, hcy⟩ := row_cells HY.out (by omega)
        have hx1 := hcx i (.int .u64 xs[i]) (by simp [hlt])
        have hy1 := hcy i (.int .u64 ys[i]) (by simp [hlt2])
        have k1 : wr.cell? ⟨g, i, none⟩ = some (.int .u64 xs[i]) := (HC.out.cell (cell_some hx1).1 (fun f => f)).trans hx1
        have k2 : wr.cell? ⟨g2, i, none⟩ = some (.int .u64 ys[i]) := (HC.out.cell (cell_some hy1).1 (fun f => f)).trans hy1
        have hsx : xs.take (i + 1) = xs.take i ++ [xs[i]] := by rw [List.take_succ_eq_append_getElem hlt]
        have hsy : ys.take (i + 1) = ys.take i ++ [ys[i]] := by rw [List.take_succ_eq_append_getElem hlt2]
        have HSX := hide hsx; have HSY := hide hsy
        have hne0 : ∀ h : xs[i] ≠ ys[i], xs ≠ ys := fun h e => by subst e; exact h rfl
        have HNE := hide hne0
        clear hcx hcy hx1 hy1 hg hg2 hsx hsy hne0
        generalize xs[i] = x at k1 HSX HNE
        generalize ys[i] = y at k2 HSY HNE
        have hi0 : (0 : Int) ≤ (i : Int) := by omega
        have hi1 : (i : Int) < (xs.length : Int) := by omega
        have hi2 : (i : Int) < (ys.length : Int) := by omega
        by_cases hxy : x = y
        · subst hxy
          have e1 : (x != x) = false := by simp
          go_wp2_with fail
          go_quiet (fail)
          go_wp2_with fail
          go_roundw
          case rel => exact ⟨i + 1, by omega, by go_num, HC.out.trans (Chg.drewN _ _ _), by rw [HSX.out, HSY.out, HT.out]⟩
          case measure => simp [intOf]; omega
        · have e1 : (x != y) = true := by simp [hxy]
          have hf : r = false := by rw [HR.out]; simp [HNE.out hxy]
          subst hf
          clear hxy
          go_wp2_with fail
          go_quiet (fail)
          go_wp2_with fail
          go_ret
          exact ⟨rfl, HC.out.trans (Chg.drewN _ _ _)⟩
      · obtain rfl : i = xs.length := by omega
        have hi1 : ¬ (xs.length : Int) < (xs.length : Int) := by omega
        have hxe : xs = ys := by
          have := HT.out
          rwa [List.take_length, HL.out, List.take_length] at this
        have ht : r = true := by rw [HR.out]; simp [hxe]
        subst ht
        clear hxe
        go_wp2_with fail
        go_ret
        exact ⟨rfl, HC.out⟩
  · have e0 : (((xs.length : Nat) : Int) != (ys.length : Int)) = true := by rw [bne_iff_ne]; omega
    have hf : r = false := by rw [HR.out]; simp; intro e; subst e; exact hl rfl
    subst hf
    clear hl
    go_enter Try.func20, Try.ntmps20
    go_wp2_with fail
    go_ret
    exact ⟨rfl, Chg.refl _ _⟩
end Go.Proofs.Ytjnbbmchmkiodaa
