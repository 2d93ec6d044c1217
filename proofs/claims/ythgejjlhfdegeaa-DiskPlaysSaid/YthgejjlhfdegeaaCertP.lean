/- DiskCertain: the plain law. -/
import Derived.Test.YthgejjlhfdegeaaDm
import Derived.Laws.BitsLemmas
import Derived.Test.YthgejjlhfdegeaaDiskB
namespace Go.Proofs.Ythgejjlhfdegeaa
open Go.RowKit

theorem and3_i64 (x : Int) : ∃ k : Nat, k < 4 ∧ bits .and .i64 x 3 = (k : Int) := by
  refine ⟨(BitVec.ofInt 64 x).toNat % 4, Nat.mod_lt _ (by decide), ?_⟩
  have e : bits .and .i64 x 3 = IntKind.i64.wrap (((BitVec.ofInt 64 x).toNat &&& 3 : Nat) : Int) := by
    show IntKind.i64.wrap ((BitVec.ofInt 64 x &&& BitVec.ofInt 64 3).toNat : Int) = _
    rw [BitVec.toNat_and]; rfl
  rw [e, show (3 : Nat) = 2 ^ 2 - 1 by decide, Nat.and_two_pow_sub_one_eq_mod, IntKind.wrap_i64]
  omega
theorem and7_i64 (x : Int) : bits .and .i64 x 7 ≤ 9223372036854775807 := by
  have e : bits .and .i64 x 7 = IntKind.i64.wrap (((BitVec.ofInt 64 x).toNat &&& 7 : Nat) : Int) := by
    show IntKind.i64.wrap ((BitVec.ofInt 64 x &&& BitVec.ofInt 64 7).toNat : Int) = _
    rw [BitVec.toNat_and]; rfl
  rw [e, IntKind.wrap_i64]
  omega

/-- What stands certain: page k reads x, the log begins with 'log'; the writes since go to pages from 4 on. -/
structure CI (m : DM) (k : Nat) (x log : List UInt8) (i : Nat) : Prop where
  len : m.base.length = 8
  k4 : k < 4
  page : m.base.getD k [] = x
  wait : ∀ r ∈ m.waiting, 4 ≤ r.1
  torn : ∀ p b, m.torn = some (p, b) → 4 ≤ p
  cert : m.certain = log.length
  log : m.log.take log.length = log
  cnt : m.waiting.length ≤ i

theorem DM.count_cases (m : DM) : (m.count = ({ m with dead := true }, false)) ∨ (∃ f o, m.count = ({ m with fuse := f, ops := o }, true)) := by
  unfold DM.count
  split
  · exact .inl rfl
  · exact .inr ⟨_, _, rfl⟩

theorem CI.write {m : DM} {k : Nat} {x log : List UInt8} {i : Nat} (h : CI m k x log i) (y : List UInt8) (hy : y.length = 512) (hi : i < 4) :
    CI (m.write (4 + (i : Int)) y).1 k x log (i + 1) ∧ ((m.write (4 + (i : Int)) y).2 = 0 ∨ ((m.write (4 + (i : Int)) y).2 = 9 ∧ (m.write (4 + (i : Int)) y).1.dead = true)) := by
  have hn : (4 + (i : Int)).toNat = 4 + i := by omega
  have hh : m.has (4 + (i : Int)) = true := by simp [DM.has, h.len]; omega
  have hcnt := h.cnt
  cases hd : m.dead
  · rcases m.count_cases with hc | ⟨f, o, hc⟩
    · have e : m.write (4 + (i : Int)) y = ({ m with dead := true, torn := some (4 + i, y) }, 9) := by simp [DM.write, hd, hh, hy, hc, hn]
      rw [e]
      refine ⟨⟨h.len, h.k4, h.page, h.wait, ?_, h.cert, h.log, by simp only; omega⟩, .inr ⟨rfl, rfl⟩⟩
      intro p b hpb
      simp only [Option.some.injEq, Prod.mk.injEq] at hpb
      omega
    · have e : m.write (4 + (i : Int)) y = ({ m with fuse := f, ops := o, waiting := m.waiting ++ [(4 + i, y)] }, 0) := by simp [DM.write, hd, hh, hy, hc, hn]
      rw [e]
      refine ⟨⟨h.len, h.k4, h.page, ?_, h.torn, h.cert, h.log, by simp; omega⟩, .inl rfl⟩
      intro r hr
      simp only [List.mem_append, List.mem_singleton] at hr
      rcases hr with hr | rfl
      · exact h.wait r hr
      · simp
  · have e : m.write (4 + (i : Int)) y = (m, 9) := by simp [DM.write, hd]
    rw [e]
    exact ⟨⟨h.len, h.k4, h.page, h.wait, h.torn, h.cert, h.log, Nat.le_succ_of_le hcnt⟩, .inr ⟨rfl, hd⟩⟩

theorem CI.append {m : DM} {k : Nat} {x log : List UInt8} {i : Nat} (h : CI m k x log i) (hl : m.certain ≤ m.log.length) (b : List UInt8) :
    CI (m.append b).1 k x log i ∧ ((m.append b).2 = 0 ∨ (m.append b).2 = 9 ∨ (m.append b).2 = 7) ∧ (m.dead = true → (m.append b).2 = 9) := by
  cases hd : m.dead
  · by_cases hr : m.room < m.log.length + b.length
    · have e : m.append b = (m, 7) := by simp [DM.append, hd, hr]
      rw [e]; exact ⟨h, .inr (.inr rfl), fun h => by cases h⟩
    · rcases m.count_cases with hc | ⟨f, o, hc⟩
      · have e : m.append b = ({ m with dead := true, tail := b }, 9) := by simp [DM.append, hd, hr, hc]
        rw [e]; exact ⟨⟨h.len, h.k4, h.page, h.wait, h.torn, h.cert, h.log, h.cnt⟩, .inr (.inl rfl), fun h => by cases h⟩
      · have e : m.append b = ({ m with fuse := f, ops := o, log := m.log ++ b }, 0) := by simp [DM.append, hd, hr, hc]
        rw [e]
        refine ⟨⟨h.len, h.k4, h.page, h.wait, h.torn, h.cert, ?_, h.cnt⟩, .inl rfl, fun h => by cases h⟩
        have := h.cert
        show (m.log ++ b).take log.length = log
        rw [List.take_append_of_le_length (by omega)]; exact h.log
  · have e : m.append b = (m, 9) := by simp [DM.append, hd]
    rw [e]; exact ⟨h, .inr (.inl rfl), fun _ => rfl⟩

theorem crashTo_far (c : List UInt8) (ws : List (Nat × List UInt8)) (b : List (List UInt8)) (k : Nat) (hk : k < 4) (hw : ∀ r ∈ ws, 4 ≤ r.1) : ∀ j, j ≤ ws.length → (crashTo c ws b j).getD k [] = b.getD k [] ∧ (crashTo c ws b j).length = b.length
  | 0, _ => ⟨rfl, rfl⟩
  | j + 1, hj => by
    obtain ⟨ih1, ih2⟩ := crashTo_far c ws b k hk hw j (by omega)
    unfold crashTo
    split
    · have h4 : 4 ≤ (ws.getD j (0, [])).1 := by
        have : ws.getD j (0, []) = ws[j] := by simp [List.getD, show j < ws.length by omega]
        rw [this]; exact hw _ (List.getElem_mem _)
      refine ⟨?_, by rw [List.length_set]; exact ih2⟩
      rw [← ih1]
      simp only [List.getD_eq_getElem?_getD]
      have hne : (ws.getD j (0, [])).1 ≠ k := by omega
      simp only [List.getD_eq_getElem?_getD] at hne
      rw [List.getElem?_set_ne hne]
    · exact ⟨ih1, ih2⟩

theorem crash_quiet (m : DM) (c : List UInt8) (hw : m.waiting = []) (ht : m.torn = none) (hl : m.certain = m.log.length) (htl : m.tail = []) : (m.crash c).base = m.base ∧ (m.crash c).log = m.log := by
  refine ⟨by simp [DM.crash, hw, ht, crashTo], ?_⟩
  simp [DM.crash, hl, htl]

/-- What a crash tells. -/
theorem CI.crash {m : DM} {k : Nat} {x log : List UInt8} {i : Nat} (h : CI m k x log i) (_hl : m.certain ≤ m.log.length) (c : List UInt8) :
    (m.crash c).read k = (x, 0) ∧ (m.crash c).logR = ((m.crash c).log, 0) ∧ log.length ≤ (m.crash c).log.length ∧ (m.crash c).log.take log.length = log ∧
    (m.crash c).certain = (m.crash c).log.length ∧ ((m.crash c).crash c).logR = ((m.crash c).log, 0) ∧ (∃ q, (m.crash c).read 5 = (q, 0) ∧ ((m.crash c).crash c).read 5 = (q, 0)) ∧ (m.crash c).waiting.length = 0 := by
  have hlen : (m.crash c).base.length = 8 := by
    have := (crashTo_far c m.waiting m.base k h.k4 h.wait m.waiting.length (Nat.le_refl _)).2
    simp only [DM.crash]
    split
    · rw [this, h.len]
    · rw [List.length_set, this, h.len]
  have hpage : (m.crash c).base.getD k [] = x := by
    have := (crashTo_far c m.waiting m.base k h.k4 h.wait m.waiting.length (Nat.le_refl _)).1
    simp only [DM.crash]
    split
    · rw [this, h.page]
    · rename_i p b ht
      have h4 := h.torn p b ht
      have hk4 := h.k4
      rw [← h.page, ← this]
      simp only [List.getD_eq_getElem?_getD]
      rw [List.getElem?_set_ne (by omega)]
  have hq := crash_quiet (m.crash c) c rfl rfl rfl rfl
  have hlog : (m.crash c).log.take log.length = log ∧ log.length ≤ (m.crash c).log.length := by
    have hc := h.cert
    have hlg := h.log
    have e : (m.crash c).log = m.log.take m.certain ++ ((m.log.drop m.certain ++ m.tail).take ((chAt c 0 + 256 * chAt c 1) % ((m.log.drop m.certain ++ m.tail).length + 1))) := rfl
    rw [e, hc, hlg]
    exact ⟨by rw [List.take_left'] ; rfl, by simp⟩
  have hk4 := h.k4
  refine ⟨?_, rfl, hlog.2, hlog.1, rfl, ?_, ⟨(m.crash c).base.getD 5 [], ?_, ?_⟩, rfl⟩
  · have hh : (m.crash c).has (k : Int) = true := by simp [DM.has, hlen]; omega
    simp only [DM.read, hh]
    rw [if_neg (by simp [DM.crash])]
    simp only [Bool.not_true, Bool.false_eq_true, if_false, DM.page, Int.toNat_natCast]
    rw [show (m.crash c).waiting = [] from rfl]
    simp only [lastOf, Option.getD_none]
    rw [hpage]
  · have : ((m.crash c).crash c).logR = (((m.crash c).crash c).log, 0) := rfl
    rw [this, hq.2]
  · have hh : (m.crash c).has 5 = true := by simp [DM.has, hlen]
    simp only [DM.read, hh]
    rw [if_neg (by simp [DM.crash])]
    rfl
  · have hh : ((m.crash c).crash c).has 5 = true := by simp [DM.has, hq.1, hlen]
    simp only [DM.read, hh]
    rw [if_neg (by simp [DM.crash])]
    rw [if_neg (by simp)]
    show (((m.crash c).crash c).base.getD 5 [], (0 : Int)) = _
    rw [hq.1]

def ct1 (k : Nat) (x : List UInt8) : DM := ((DM.fresh 8 4096).write (k : Int) x).1
def ct2 (k : Nat) (x log : List UInt8) : DM := ((ct1 k x).append log).1
def ct3 (k : Nat) (x log : List UInt8) : DM := (ct2 k x log).sync.1
def ct4 (k : Nat) (x log : List UInt8) : DM := (ct3 k x log).force.1
theorem cert_start (k : Nat) (hk : k < 4) (x log : List UInt8) (hx : x.length = 512) (hl : log.length ≤ 4096) (f : Int) :
    ((DM.fresh 8 4096).write (k : Int) x).2 = 0 ∧ ((ct1 k x).append log).2 = 0 ∧ (ct2 k x log).sync.2 = 0 ∧ (ct3 k x log).force.2 = 0 ∧ CI ((ct4 k x log).setFuse f) k x log 0 := by
  have hh : (DM.fresh 8 4096).has (k : Int) = true := by simp [DM.has, DM.fresh]; omega
  have e1 : (DM.fresh 8 4096).write (k : Int) x = ({ DM.fresh 8 4096 with fuse := -1, ops := 1, waiting := [(k, x)] }, 0) := by
    simp only [DM.write, hh, hx]
    simp [DM.fresh, DM.count, wrap64]
  have e1' : ct1 k x = { DM.fresh 8 4096 with fuse := -1, ops := 1, waiting := [(k, x)] } := by unfold ct1; rw [e1]
  have e2 : (ct1 k x).append log = ({ DM.fresh 8 4096 with fuse := -1, ops := 2, waiting := [(k, x)], log := log }, 0) := by
    rw [e1']; simp [DM.append, DM.fresh, DM.count, wrap64]; omega
  have e2' : ct2 k x log = { DM.fresh 8 4096 with fuse := -1, ops := 2, waiting := [(k, x)], log := log } := by unfold ct2; rw [e2]
  have e3 : ∃ b : List (List UInt8), (ct2 k x log).sync = ({ DM.fresh 8 4096 with fuse := -1, ops := 3, waiting := [], log := log, base := b }, 0) ∧ b.length = 8 ∧ b.getD k [] = x := by
    refine ⟨(ct2 k x log).settled, ?_, ?_, ?_⟩
    · rw [e2']; simp [DM.sync, DM.fresh, DM.count, wrap64, DM.settled, DM.page]
    · rw [e2']; simp [DM.settled, DM.fresh]
    · rw [e2']
      have h8 : k < 8 := by omega
      simp [DM.settled, DM.fresh, h8, DM.page, lastOf]
  obtain ⟨b, e3, hb1, hb2⟩ := e3
  have e3' : ct3 k x log = { DM.fresh 8 4096 with fuse := -1, ops := 3, waiting := [], log := log, base := b } := by unfold ct3; rw [e3]
  have e4 : (ct3 k x log).force = ({ DM.fresh 8 4096 with fuse := -1, ops := 4, waiting := [], log := log, base := b, certain := log.length }, 0) := by
    rw [e3']; simp [DM.force, DM.fresh, DM.count, wrap64]
  have e4' : ct4 k x log = { DM.fresh 8 4096 with fuse := -1, ops := 4, waiting := [], log := log, base := b, certain := log.length } := by unfold ct4; rw [e4]
  refine ⟨by rw [e1], by rw [e2], by rw [e3], by rw [e4], ?_⟩
  rw [e4']
  exact ⟨hb1, hk, hb2, (fun r hr => by cases hr), (fun p b h => by cases h), rfl, List.take_length, Nat.le_refl _⟩
theorem cert_far (log : List UInt8) (hl : ¬ log.length ≤ 4096) : ((DM.fresh 8 4096).append log).2 = 7 := by
  have h : 4096 < log.length := by omega
  simp [DM.append, DM.fresh, h]
theorem ct1_eq (k : Nat) (x : List UInt8) : ((DM.fresh 8 4096).write (k : Int) x).1 = ct1 k x := rfl
theorem ct2_eq (k : Nat) (x log : List UInt8) : ((ct1 k x).append log).1 = ct2 k x log := rfl
theorem ct3_eq (k : Nat) (x log : List UInt8) : (ct2 k x log).sync.1 = ct3 k x log := rfl
theorem ct4_eq (k : Nat) (x log : List UInt8) : (ct3 k x log).force.1 = ct4 k x log := rfl
attribute [irreducible] ct1 ct2 ct3 ct4
end Go.Proofs.Ythgejjlhfdegeaa
