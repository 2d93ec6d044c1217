/- DiskKeeps: the plain law. -/
import Derived.Test.YthgejjlhfdegeaaAsk
import Derived.Test.YthgejjlhfdegeaaCertP
namespace Go.Proofs.Ythgejjlhfdegeaa
open Go.RowKit

/-- Alive, with no fuse; five pages. -/
structure KI (m : DM) (i : Nat) : Prop where
  dead : m.dead = false
  fuse : m.fuse = -1
  base : m.base.length = 5
  wait : m.waiting.length ≤ i

theorem KI.count {m : DM} {i : Nat} (h : KI m i) : ∃ o, m.count = ({ m with ops := o }, true) := by
  refine ⟨wrap64 (m.ops + 1), ?_⟩
  unfold DM.count
  rw [if_neg (by rw [h.fuse]; decide)]
  have := h.fuse
  obtain ⟨a1, a2, a3, a4, a5, a6, a7, a8, a9, a10, a11⟩ := m
  simp only at this
  subst this
  rfl
theorem KI.succ {m : DM} {i : Nat} (h : KI m i) : KI m (i + 1) := ⟨h.dead, h.fuse, h.base, Nat.le_succ_of_le h.wait⟩
theorem KI.ask {m : DM} {i : Nat} (h : KI m i) (op n : Int) (b : List UInt8) : KI (m.ask op n b).1 (i + 1) := by
  obtain ⟨o, hc⟩ := h.count
  have hd := h.dead
  have hs := h.succ
  unfold DM.ask
  split
  · simp only [DM.write, hd, hc, Bool.false_eq_true, if_false, if_true]
    split
    · exact hs
    · exact ⟨rfl, h.fuse, h.base, by simp; exact h.wait⟩
  split
  · simp only [DM.sync, hd, hc, Bool.false_eq_true, if_false, if_true]
    exact ⟨rfl, h.fuse, by simp [DM.settled]; exact h.base, by simp⟩
  split
  · simp only [DM.append, hd, hc, Bool.false_eq_true, if_false, if_true]
    split
    · exact hs
    · exact ⟨rfl, h.fuse, h.base, hs.wait⟩
  split
  · simp only [DM.force, hd, hc, Bool.false_eq_true, if_false, if_true]
    exact ⟨rfl, h.fuse, h.base, hs.wait⟩
  split
  · simp only [DM.cut, hd, hc, Bool.false_eq_true, if_false, if_true]
    split
    · exact hs
    · exact ⟨rfl, h.fuse, h.base, hs.wait⟩
  split
  · simp only [DM.trim, hd, hc, Bool.false_eq_true, if_false, if_true]
    split
    · exact hs
    · exact ⟨rfl, h.fuse, h.base, hs.wait⟩
  · simp only [DM.setMark, hd, hc, Bool.false_eq_true, if_false, if_true]
    split
    · exact hs
    · exact ⟨rfl, h.fuse, h.base, hs.wait⟩

theorem KI.start : KI (DM.fresh 5 200) 0 := ⟨rfl, rfl, by simp [DM.fresh], Nat.le_refl _⟩

def evens (l : List UInt8) : List UInt8 := l.map (· &&& 254)
theorem evens_length (l : List UInt8) : (evens l).length = l.length := by simp [evens]
theorem evens_snoc (l : List UInt8) (i : Nat) (h : i < l.length) : evens (l.take (i + 1)) = evens (l.take i) ++ [l[i] &&& 254] := by
  unfold evens
  rw [List.take_succ_eq_append_getElem h, List.map_append]; rfl
theorem and254_u8 (x : UInt8) : bits .and .u8 (x.toNat : Int) 254 = ((x &&& 254).toNat : Int) := by
  have e : bits .and .u8 (x.toNat : Int) 254 = IntKind.u8.wrap (((BitVec.ofInt 8 (x.toNat : Int)).toNat &&& 254 : Nat) : Int) := by
    show IntKind.u8.wrap ((BitVec.ofInt 8 (x.toNat : Int) &&& BitVec.ofInt 8 254).toNat : Int) = _
    rw [BitVec.toNat_and]; rfl
  have e2 : (BitVec.ofInt 8 (x.toNat : Int)).toNat = x.toNat := by
    have := x.toNat_lt
    simp
  have e3 : x.toNat &&& 254 ≤ 254 := Nat.and_le_right
  rw [e, e2, UInt8.toNat_and]
  show IntKind.u8.wrap ((x.toNat &&& 254 : Nat) : Int) = ((x.toNat &&& 254 : Nat) : Int)
  rw [IntKind.wrap_u8]
  omega
theorem even254 (x : UInt8) : (x &&& 254).toNat % 2 = 0 := by
  rw [UInt8.toNat_and]
  have h : ((x.toNat &&& 254) &&& 1) = 0 := by rw [Nat.and_assoc]; exact Nat.and_zero _
  rwa [Nat.and_one_is_mod] at h
theorem chAt_evens (l : List UInt8) (k : Nat) : chAt (evens l) k % 2 = 0 := by
  unfold chAt evens
  rw [List.getD_eq_getElem?_getD, List.getElem?_map]
  cases l[k]? with
  | none => rfl
  | some x => exact even254 x

theorem crashTo_even {c : List UInt8} {ws : List (Nat × List UInt8)} {b : List (List UInt8)} (he : ∀ k, chAt c k % 2 = 0) (hw : ∀ r ∈ ws, r.1 < b.length) (n : Nat) :
    ∀ k, k ≤ ws.length → (crashTo c ws b k).getD n [] = (lastOf (ws.take k) n).getD (b.getD n []) := by
  intro k
  induction k with
  | zero => intro _; simp [crashTo, lastOf]
  | succ k ih =>
    intro hk
    have hlt : k < ws.length := hk
    unfold crashTo
    rw [if_pos (he k), List.take_succ_eq_append_getElem hlt]
    have e : ws.getD k (0, []) = ws[k] := by simp [hlt]
    rw [e]
    rcases hp : ws[k] with ⟨p, x⟩
    have hpl : p < b.length := by have := hw ws[k] (List.getElem_mem hlt); rw [hp] at this; exact this
    rw [lastOf_snoc]
    simp only [List.getD_eq_getElem?_getD, List.getElem?_set, crashTo_length]
    by_cases hpn : p = n
    · subst hpn; simp [hpl]
    · simp only [hpn, if_false]
      have := ih (Nat.le_of_lt hlt)
      simpa [List.getD_eq_getElem?_getD] using this

/-- What a crash of even bytes leaves. -/
theorem KI.crash {m : DM} {i : Nat} (h : KI m i) (hok : m.Ok) {c : List UInt8} (he : ∀ k, chAt c k % 2 = 0) :
    (m.crash c).ops = 0 ∧ (m.crash c).dead = false ∧ (∀ j : Nat, j < 5 → ∃ p, m.read j = (p, 0) ∧ (m.crash c).read j = (p, 0) ∧ p.length = 512) ∧ m.logR = (m.log, 0) ∧
    (∃ j, (m.crash c).logR = (m.log.take j, 0) ∧ j ≤ m.log.length ∧ m.certain ≤ j) ∧ m.markR = (m.mark, 0) ∧ (m.crash c).markR = (m.mark, 0) ∧ m.waiting.length ≤ i := by
  have ht := (hok.alive h.dead).1
  have htl := (hok.alive h.dead).2
  refine ⟨rfl, rfl, ?_, by simp [DM.logR, h.dead], ?_, by simp [DM.markR, h.dead], by simp [DM.markR, DM.crash], h.wait⟩
  · intro j hj
    have hh : m.has j = true := by simp [DM.has, h.base]; omega
    have hb : (m.crash c).base = crashTo c m.waiting m.base m.waiting.length := by simp [DM.crash, ht]
    have hh2 : (m.crash c).has j = true := by simp [DM.has, hb, crashTo_length, h.base]; omega
    have hw2 : (m.crash c).waiting = [] := rfl
    have hcr := crashTo_even he (fun r hr => (hok.wait r hr).1) j m.waiting.length (Nat.le_refl _)
    rw [List.take_of_length_le (Nat.le_refl _)] at hcr
    refine ⟨m.page j, by simp [DM.read, h.dead, hh], ?_, ?_⟩
    · have : (m.crash c).page j = m.page j := by unfold DM.page; rw [hw2, hb, hcr]; rfl
      have hd2 : (m.crash c).dead = false := rfl
      simp [DM.read, hd2, hh2, this]
    · unfold DM.page
      cases hl : lastOf m.waiting j with
      | some b => exact (hok.wait _ (lastOf_mem hl)).2
      | none =>
        have hjl : j < m.base.length := by rw [h.base]; exact hj
        have : m.base.getD j [] = m.base[j] := by simp [hjl]
        simp only [Option.getD_none, this]
        exact hok.page _ (List.getElem_mem hjl)
  · obtain ⟨j, hj⟩ : ∃ j, (chAt c 0 + 256 * chAt c 1) % ((m.log.drop m.certain ++ m.tail).length + 1) = j := ⟨_, rfl⟩
    have hj2 : j ≤ m.log.length - m.certain := by
      have := Nat.mod_lt (chAt c 0 + 256 * chAt c 1) (Nat.succ_pos (m.log.drop m.certain ++ m.tail).length)
      rw [Nat.succ_eq_add_one, hj, htl] at this
      simp at this; omega
    have hcl := hok.certain
    refine ⟨m.certain + j, ?_, by omega, by omega⟩
    have : (m.crash c).log = m.log.take (m.certain + j) := by
      have e : (m.crash c).log = m.log.take m.certain ++ (m.log.drop m.certain ++ m.tail).take j := by rw [← hj]; rfl
      rw [e, htl, List.append_nil, List.take_add]
    have hd2 : (m.crash c).dead = false := rfl
    simp [DM.logR, hd2, this]
end Go.Proofs.Ythgejjlhfdegeaa
