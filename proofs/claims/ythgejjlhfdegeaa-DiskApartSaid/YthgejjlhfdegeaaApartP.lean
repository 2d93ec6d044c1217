/- DiskApart: the plain law. -/
import Derived.Test.YthgejjlhfdegeaaAsk
import Derived.Test.YthgejjlhfdegeaaCertP
namespace Go.Proofs.Ythgejjlhfdegeaa
open Go.RowKit

/-- One page written, not settled; alive, with no fuse. -/
structure AI (m : DM) (x : List UInt8) : Prop where
  dead : m.dead = false
  fuse : m.fuse = -1
  base : m.base = List.replicate 3 zeros512
  wait : m.waiting = [(1, x)]

theorem AI.count {m : DM} {x : List UInt8} (h : AI m x) : ∃ o, m.count = ({ m with ops := o }, true) := by
  refine ⟨wrap64 (m.ops + 1), ?_⟩
  unfold DM.count
  rw [if_neg (by rw [h.fuse]; decide)]
  have := h.fuse
  obtain ⟨a1, a2, a3, a4, a5, a6, a7, a8, a9, a10, a11⟩ := m
  simp only at this
  subst this
  rfl

theorem AI.ask {m : DM} {x : List UInt8} (h : AI m x) (op n : Int) (b : List UInt8) (h2 : 2 ≤ op) (h6 : op ≤ 6) : AI (m.ask op n b).1 x := by
  obtain ⟨o, hc⟩ := h.count
  have hd := h.dead
  obtain rfl | rfl | rfl | rfl | rfl : op = 2 ∨ op = 3 ∨ op = 4 ∨ op = 5 ∨ op = 6 := by omega
  · have e : m.ask 2 n b = m.append b := by simp [DM.ask]
    rw [e]
    simp only [DM.append, hd, hc, Bool.false_eq_true, if_false, if_true]
    split
    · exact h
    · exact ⟨rfl, h.fuse, h.base, h.wait⟩
  · have e : m.ask 3 n b = m.force := by simp [DM.ask]
    rw [e]
    simp only [DM.force, hd, hc, Bool.false_eq_true, if_false, if_true]
    exact ⟨rfl, h.fuse, h.base, h.wait⟩
  · have e : m.ask 4 n b = m.cut n b := by simp [DM.ask]
    rw [e]
    simp only [DM.cut, hd, hc, Bool.false_eq_true, if_false, if_true]
    split
    · exact h
    · exact ⟨rfl, h.fuse, h.base, h.wait⟩
  · have e : m.ask 5 n b = m.trim n := by simp [DM.ask]
    rw [e]
    simp only [DM.trim, hd, hc, Bool.false_eq_true, if_false, if_true]
    split
    · exact h
    · exact ⟨rfl, h.fuse, h.base, h.wait⟩
  · have e : m.ask 6 n b = m.setMark b := by simp [DM.ask]
    rw [e]
    simp only [DM.setMark, hd, hc, Bool.false_eq_true, if_false, if_true]
    split
    · exact h
    · exact ⟨rfl, h.fuse, h.base, h.wait⟩

def ap1 (x : List UInt8) : DM := ((DM.fresh 3 400).write 1 x).1
theorem apart_start (x : List UInt8) (hx : x.length = 512) : ((DM.fresh 3 400).write 1 x).2 = 0 ∧ AI (ap1 x) x := by
  have e1 : (DM.fresh 3 400).write 1 x = ({ DM.fresh 3 400 with fuse := -1, ops := 1, waiting := [(1, x)] }, 0) := by
    simp [DM.write, DM.fresh, DM.has, DM.count, hx, wrap64]
  unfold ap1
  rw [e1]
  exact ⟨rfl, ⟨rfl, rfl, rfl, rfl⟩⟩
theorem ap1_eq (x : List UInt8) : ((DM.fresh 3 400).write 1 x).1 = ap1 x := rfl
attribute [irreducible] ap1

theorem AI.facts {m : DM} {x : List UInt8} (h : AI m x) (hx : x.length = 512) (ht : m.torn = none) :
    m.read 1 = (x, 0) ∧ (m.crash [1]).read 1 = (zeros512, 0) ∧ m.logR = (m.log, 0) ∧ m.markR = (m.mark, 0) ∧ m.sync.2 = 0 ∧ (m.sync.1.write 2 x).2 = 0 ∧
    (m.sync.1.write 2 x).1.certain = m.certain ∧ (m.sync.1.write 2 x).1.logR = (m.log, 0) ∧ (m.sync.1.write 2 x).1.markR = (m.mark, 0) ∧ ((m.sync.1.write 2 x).1.crash [1]).read 1 = (x, 0) ∧
    m.waiting.length = 1 ∧ m.sync.1.waiting.length = 0 ∧ (m.sync.1.write 2 x).1.waiting.length = 1 := by
  obtain ⟨a1, a2, a3, a4, a5, a6, a7, a8, a9, a10, a11⟩ := m
  obtain ⟨h1, h2, h3, h4⟩ := h
  simp only at h1 h2 h3 h4 ht
  subst h1 h2 h3 h4 ht
  refine ⟨?_, ?_, rfl, rfl, ?_, ?_, ?_, ?_, ?_, ?_, rfl, ?_, ?_⟩
  · simp [DM.read, DM.has, DM.page, lastOf]
  · simp [DM.read, DM.crash, DM.has, DM.page, lastOf, crashTo, chAt]
  · simp [DM.sync, DM.count]
  · simp [DM.sync, DM.count, DM.write, DM.settled, DM.has, hx]
  · simp [DM.sync, DM.count, DM.write, DM.settled, DM.has, hx]
  · simp [DM.sync, DM.count, DM.write, DM.settled, DM.has, hx, DM.logR]
  · simp [DM.sync, DM.count, DM.write, DM.settled, DM.has, hx, DM.markR]
  · simp [DM.sync, DM.count, DM.write, DM.settled, DM.has, hx, DM.read, DM.crash, DM.page, lastOf, crashTo, chAt]
  · simp [DM.sync, DM.count]
  · simp [DM.sync, DM.count, DM.write, DM.settled, DM.has, hx]
end Go.Proofs.Ythgejjlhfdegeaa
