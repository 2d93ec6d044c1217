/- The device as it is meant: plain lists and numbers. -/
import Derived.Test.YthgejjlhfdegeaaBase
namespace Go.Proofs.Ythgejjlhfdegeaa
open Go.RowKit

def zeros512 : List UInt8 := List.replicate 512 0
theorem zeros512_length : zeros512.length = 512 := List.length_replicate

structure DM where
  room : Nat
  base : List (List UInt8)
  waiting : List (Nat × List UInt8)
  log : List UInt8
  certain : Nat
  mark : List UInt8
  fuse : Int
  ops : Int
  dead : Bool
  torn : Option (Nat × List UInt8)
  tail : List UInt8

/-- The last write of page n. -/
def lastOf {α : Type} : List (Nat × α) → Nat → Option α
  | [], _ => none
  | (p, b) :: r, n => match lastOf r n with
    | some x => some x
    | none => if p = n then some b else none

theorem lastOf_snoc {α : Type} (l : List (Nat × α)) (p n : Nat) (b : α) : lastOf (l ++ [(p, b)]) n = if p = n then some b else lastOf l n := by
  induction l with
  | nil => simp [lastOf]
  | cons x r ih =>
    obtain ⟨q, c⟩ := x
    simp only [List.cons_append, lastOf, ih]
    by_cases h : p = n
    · simp [h]
    · simp [h]
theorem lastOf_map {α β : Type} (f : α → β) (l : List (Nat × α)) (n : Nat) : lastOf (l.map fun r => (r.1, f r.2)) n = (lastOf l n).map f := by
  induction l with
  | nil => rfl
  | cons x r ih =>
    obtain ⟨q, c⟩ := x
    simp only [List.map_cons, lastOf, ih]
    cases h : lastOf r n with
    | some y => simp
    | none => by_cases hq : q = n <;> simp [hq]
theorem lastOf_mem {α : Type} {l : List (Nat × α)} {n : Nat} {b : α} (h : lastOf l n = some b) : (n, b) ∈ l := by
  induction l with
  | nil => cases h
  | cons x r ih =>
    obtain ⟨q, c⟩ := x
    simp only [lastOf] at h
    cases hr : lastOf r n with
    | some y => rw [hr] at h; simp at h; subst h; exact List.mem_cons_of_mem _ (ih hr)
    | none =>
      rw [hr] at h
      by_cases hq : q = n
      · subst hq; simp at h; subst h; exact List.mem_cons_self
      · simp [hq] at h

def DM.fresh (pages room : Nat) : DM :=
  { room := room, base := List.replicate pages zeros512, waiting := [], log := [], certain := 0, mark := [], fuse := -1, ops := 0, dead := false, torn := none, tail := [] }

/-- A page as it was written last. -/
def DM.page (m : DM) (n : Nat) : List UInt8 := (lastOf m.waiting n).getD (m.base.getD n [])

def DM.has (m : DM) (n : Int) : Bool := decide (0 ≤ n ∧ n < (m.base.length : Int))

/-- An operation is counted; false: the device dies at it. -/
def DM.count (m : DM) : DM × Bool :=
  if m.fuse = 0 then ({ m with dead := true }, false)
  else ({ m with fuse := if 0 < m.fuse then m.fuse - 1 else m.fuse, ops := wrap64 (m.ops + 1) }, true)

def DM.write (m : DM) (n : Int) (b : List UInt8) : DM × Int :=
  if m.dead then (m, 9) else if !(m.has n) || b.length != 512 then (m, 1)
  else if m.count.2 then ({ m.count.1 with waiting := m.count.1.waiting ++ [(n.toNat, b)] }, 0)
  else ({ m.count.1 with torn := some (n.toNat, b) }, 9)

def DM.settled (m : DM) : List (List UInt8) := (List.range m.base.length).map m.page

def DM.sync (m : DM) : DM × Int :=
  if m.dead then (m, 9) else if m.count.2 then ({ m.count.1 with base := m.count.1.settled, waiting := [] }, 0) else (m.count.1, 9)

def DM.append (m : DM) (b : List UInt8) : DM × Int :=
  if m.dead then (m, 9) else if m.room < m.log.length + b.length then (m, 7)
  else if m.count.2 then ({ m.count.1 with log := m.count.1.log ++ b }, 0) else ({ m.count.1 with tail := b }, 9)

def DM.force (m : DM) : DM × Int :=
  if m.dead then (m, 9) else if m.count.2 then ({ m.count.1 with certain := m.count.1.log.length }, 0) else (m.count.1, 9)

def DM.cut (m : DM) (n : Int) (b : List UInt8) : DM × Int :=
  if m.dead then (m, 9) else if n < 0 ∨ (m.certain : Int) < n ∨ 64 < b.length then (m, 1)
  else if m.count.2 then ({ m.count.1 with log := m.count.1.log.drop n.toNat, certain := m.count.1.certain - n.toNat, mark := b }, 0) else (m.count.1, 9)

def DM.trim (m : DM) (n : Int) : DM × Int :=
  if m.dead then (m, 9) else if n < 0 ∨ (m.log.length : Int) < n then (m, 1)
  else if m.count.2 then ({ m.count.1 with log := m.count.1.log.take n.toNat, certain := n.toNat }, 0) else (m.count.1, 9)

def DM.setMark (m : DM) (b : List UInt8) : DM × Int :=
  if m.dead then (m, 9) else if 64 < b.length then (m, 1)
  else if m.count.2 then ({ m.count.1 with mark := b }, 0) else (m.count.1, 9)

def DM.setFuse (m : DM) (n : Int) : DM := { m with fuse := max (-1) n }

def DM.read (m : DM) (n : Int) : List UInt8 × Int :=
  if m.dead then ([], 9) else if !(m.has n) then ([], 1) else (m.page n.toNat, 0)

def chAt (c : List UInt8) (i : Nat) : Nat := (c.getD i 0).toNat

/-- The pages when the first k writes have been let through or not. -/
def crashTo (c : List UInt8) (ws : List (Nat × List UInt8)) (b : List (List UInt8)) : Nat → List (List UInt8)
  | 0 => b
  | k + 1 => if chAt c k % 2 = 0 then (crashTo c ws b k).set (ws.getD k (0, [])).1 (ws.getD k (0, [])).2 else crashTo c ws b k

def DM.crash (m : DM) (c : List UInt8) : DM :=
  let b := crashTo c m.waiting m.base m.waiting.length
  let b := match m.torn with
    | none => b
    | some (p, x) => b.set p (x.take (128 * (chAt c m.waiting.length / 2 % 5)) ++ (b.getD p []).drop (128 * (chAt c m.waiting.length / 2 % 5)))
  let rest := m.log.drop m.certain ++ m.tail
  let log := m.log.take m.certain ++ rest.take ((chAt c 0 + 256 * chAt c 1) % (rest.length + 1))
  { room := m.room, base := b, waiting := [], log := log, certain := log.length, mark := m.mark, fuse := -1, ops := 0, dead := false, torn := none, tail := [] }

/-- What always holds of one. -/
structure DM.Ok (m : DM) : Prop where
  pages : 1 ≤ m.base.length ∧ m.base.length ≤ 65536
  page : ∀ b ∈ m.base, b.length = 512
  wait : ∀ r ∈ m.waiting, r.1 < m.base.length ∧ r.2.length = 512
  room : m.room ≤ 16777216
  log : m.log.length ≤ m.room
  certain : m.certain ≤ m.log.length
  mark : m.mark.length ≤ 64
  fuse : -1 ≤ m.fuse ∧ m.fuse ≤ 9223372036854775807
  ops : -9223372036854775808 ≤ m.ops ∧ m.ops ≤ 9223372036854775807
  torn : ∀ p b, m.torn = some (p, b) → p < m.base.length ∧ b.length = 512
  tail : m.log.length + m.tail.length ≤ m.room
  alive : m.dead = false → m.torn = none ∧ m.tail = []

theorem wrap64_range (n : Int) : -9223372036854775808 ≤ wrap64 n ∧ wrap64 n ≤ 9223372036854775807 := by unfold wrap64; omega

theorem DM.Ok.fresh {pages room : Nat} (h1 : 1 ≤ pages) (h2 : pages ≤ 65536) (h3 : room ≤ 16777216) : (DM.fresh pages room).Ok := by
  constructor
  all_goals simp [DM.fresh, zeros512_length, h1, h2, h3]

theorem DM.Ok.count {m : DM} (h : m.Ok) : m.count.1.Ok := by
  unfold DM.count
  obtain ⟨a1, a2, a3, a4, a5, a6, a7, a8, a9, a10, a11, a12⟩ := h
  split
  · exact ⟨a1, a2, a3, a4, a5, a6, a7, a8, a9, a10, a11, fun h => by cases h⟩
  · exact ⟨a1, a2, a3, a4, a5, a6, a7, by simp only; split <;> omega, wrap64_range _, a10, a11, a12⟩

theorem DM.count_same (m : DM) : m.count.1.room = m.room ∧ m.count.1.base = m.base ∧ m.count.1.waiting = m.waiting ∧ m.count.1.log = m.log ∧ m.count.1.certain = m.certain ∧ m.count.1.mark = m.mark ∧ m.count.1.torn = m.torn ∧ m.count.1.tail = m.tail := by
  unfold DM.count; split <;> simp
theorem DM.count_dead (m : DM) (h : m.dead = false) : m.count.1.dead = !m.count.2 := by
  unfold DM.count; split <;> simp [h]
end Go.Proofs.Ythgejjlhfdegeaa
