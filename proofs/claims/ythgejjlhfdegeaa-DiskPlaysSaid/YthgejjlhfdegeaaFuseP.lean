/- DiskFuse: the plain law. -/
import Derived.Test.YthgejjlhfdegeaaAsk
import Derived.Test.YthgejjlhfdegeaaCertP
namespace Go.Proofs.Ythgejjlhfdegeaa
open Go.RowKit

/-- So many are done; the fuse has the rest. -/
structure FI (m : DM) (done most : Nat) : Prop where
  fuse : m.fuse + (done : Int) = (most : Int)
  pos : 0 ≤ m.fuse
  ops : m.ops = (done : Int)
  dead : m.dead = true → m.fuse = 0
  wait : m.waiting.length ≤ done
  most : most ≤ 15

theorem FI.count {m : DM} {done most : Nat} (h : FI m done most) :
    (m.fuse = 0 ∧ m.count = ({ m with dead := true }, false)) ∨ (0 < m.fuse ∧ m.count = ({ m with fuse := m.fuse - 1, ops := (done : Int) + 1 }, true)) := by
  have h1 := h.fuse; have h2 := h.pos; have h3 := h.ops; have h4 := h.most
  unfold DM.count
  by_cases h0 : m.fuse = 0
  · rw [if_pos h0]; exact .inl ⟨h0, rfl⟩
  · rw [if_neg h0, if_pos (by omega), h3, show wrap64 ((done : Int) + 1) = (done : Int) + 1 by unfold wrap64; omega]
    exact .inr ⟨by omega, rfl⟩

/-- What an operation does to the count: done; dead; refused. -/
def FStep (m : DM) (done most : Nat) (r : DM × Int) : Prop :=
  (r.2 = 0 ∧ m.dead = false ∧ done < most ∧ r.1.dead = false ∧ FI r.1 (done + 1) most) ∨ (r.2 = 9 ∧ done = most ∧ r.1.dead = true ∧ FI r.1 done most) ∨ (r.2 ≠ 0 ∧ r.2 ≠ 9 ∧ r.1.dead = false ∧ FI r.1 done most)

theorem FI.same9 {m : DM} {done most : Nat} (h : FI m done most) (hd : m.dead = true) : FStep m done most (m, 9) := by
  have h1 := h.fuse; have h2 := h.dead hd
  exact .inr (.inl ⟨rfl, by omega, hd, h⟩)
theorem FI.refuse {m : DM} {done most : Nat} (h : FI m done most) (hd : m.dead = false) (n : Int) (h0 : n ≠ 0) (h9 : n ≠ 9) : FStep m done most (m, n) := .inr (.inr ⟨h0, h9, hd, h⟩)
/-- An operation that is counted: 'f' sets what is done, 'g' what is torn. -/
theorem FI.op {m : DM} {done most : Nat} (h : FI m done most) (hd : m.dead = false) (f g : DM → DM)
    (hf : ∀ m : DM, (f m).fuse = m.fuse ∧ (f m).ops = m.ops ∧ (f m).dead = m.dead ∧ (f m).waiting.length ≤ m.waiting.length + 1)
    (hg : ∀ m : DM, (g m).fuse = m.fuse ∧ (g m).ops = m.ops ∧ (g m).dead = m.dead ∧ (g m).waiting.length ≤ m.waiting.length) :
    FStep m done most (if m.count.2 then (f m.count.1, 0) else (g m.count.1, 9)) := by
  have h1 := h.fuse; have h2 := h.pos; have h3 := h.ops; have h4 := h.most; have h5 := h.wait
  rcases h.count with ⟨h0, hc⟩ | ⟨h0, hc⟩
  · rw [hc]
    obtain ⟨g1, g2, g3, g4⟩ := hg { m with dead := true }
    refine .inr (.inl ⟨rfl, by omega, g3, ⟨?_, ?_, ?_, ?_, ?_, h4⟩⟩)
    · show (g _).fuse + _ = _; rw [g1]; exact h1
    · show 0 ≤ (g _).fuse; rw [g1]; exact h2
    · show (g _).ops = _; rw [g2]; exact h3
    · intro _; show (g _).fuse = 0; rw [g1]; exact h0
    · exact Nat.le_trans g4 h5
  · rw [hc]
    obtain ⟨f1, f2, f3, f4⟩ := hf { m with fuse := m.fuse - 1, ops := (done : Int) + 1 }
    simp only at f1 f2 f3 f4
    refine .inl ⟨rfl, hd, by omega, by show (f _).dead = false; rw [f3]; exact hd, ⟨?_, ?_, ?_, ?_, ?_, h4⟩⟩
    · show (f _).fuse + _ = _; rw [f1]; omega
    · show 0 ≤ (f _).fuse; rw [f1]; omega
    · show (f _).ops = _; rw [f2]; omega
    · intro hdd; exfalso; have : (f _).dead = true := hdd; rw [f3, hd] at this; cases this
    · exact Nat.le_trans f4 (Nat.add_le_add_right h5 1)

theorem FI.ask {m : DM} {done most : Nat} (h : FI m done most) (op n : Int) (b : List UInt8) : FStep m done most (m.ask op n b) := by
  have key : ∀ r : DM × Int, (m.dead = true → r = (m, 9)) → (m.dead = false → FStep m done most r) → FStep m done most r := fun r h1 h2 => by
    cases hd : m.dead
    · exact h2 hd
    · rw [h1 hd]; exact h.same9 hd
  unfold DM.ask
  split
  · refine key _ (fun hd => by simp [DM.write, hd]) (fun hd => ?_)
    unfold DM.write
    rw [if_neg (by simp [hd])]
    split
    · exact h.refuse hd 1 (by decide) (by decide)
    · exact h.op hd (fun c => { c with waiting := c.waiting ++ [(n.toNat, b)] }) (fun c => { c with torn := some (n.toNat, b) }) (fun c => ⟨rfl, rfl, rfl, by simp⟩) (fun c => ⟨rfl, rfl, rfl, Nat.le_refl _⟩)
  split
  · refine key _ (fun hd => by simp [DM.sync, hd]) (fun hd => ?_)
    unfold DM.sync
    rw [if_neg (by simp [hd])]
    exact h.op hd (fun c => { c with base := c.settled, waiting := [] }) id (fun c => ⟨rfl, rfl, rfl, Nat.zero_le _⟩) (fun c => ⟨rfl, rfl, rfl, Nat.le_refl _⟩)
  split
  · refine key _ (fun hd => by simp [DM.append, hd]) (fun hd => ?_)
    unfold DM.append
    rw [if_neg (by simp [hd])]
    split
    · exact h.refuse hd 7 (by decide) (by decide)
    · exact h.op hd (fun c => { c with log := c.log ++ b }) (fun c => { c with tail := b }) (fun c => ⟨rfl, rfl, rfl, Nat.le_succ _⟩) (fun c => ⟨rfl, rfl, rfl, Nat.le_refl _⟩)
  split
  · refine key _ (fun hd => by simp [DM.force, hd]) (fun hd => ?_)
    unfold DM.force
    rw [if_neg (by simp [hd])]
    exact h.op hd (fun c => { c with certain := c.log.length }) id (fun c => ⟨rfl, rfl, rfl, Nat.le_succ _⟩) (fun c => ⟨rfl, rfl, rfl, Nat.le_refl _⟩)
  split
  · refine key _ (fun hd => by simp [DM.cut, hd]) (fun hd => ?_)
    unfold DM.cut
    rw [if_neg (by simp [hd])]
    split
    · exact h.refuse hd 1 (by decide) (by decide)
    · exact h.op hd (fun c => { c with log := c.log.drop n.toNat, certain := c.certain - n.toNat, mark := b }) id (fun c => ⟨rfl, rfl, rfl, Nat.le_succ _⟩) (fun c => ⟨rfl, rfl, rfl, Nat.le_refl _⟩)
  split
  · refine key _ (fun hd => by simp [DM.trim, hd]) (fun hd => ?_)
    unfold DM.trim
    rw [if_neg (by simp [hd])]
    split
    · exact h.refuse hd 1 (by decide) (by decide)
    · exact h.op hd (fun c => { c with log := c.log.take n.toNat, certain := n.toNat }) id (fun c => ⟨rfl, rfl, rfl, Nat.le_succ _⟩) (fun c => ⟨rfl, rfl, rfl, Nat.le_refl _⟩)
  · refine key _ (fun hd => by simp [DM.setMark, hd]) (fun hd => ?_)
    unfold DM.setMark
    rw [if_neg (by simp [hd])]
    split
    · exact h.refuse hd 1 (by decide) (by decide)
    · exact h.op hd (fun c => { c with mark := b }) id (fun c => ⟨rfl, rfl, rfl, Nat.le_succ _⟩) (fun c => ⟨rfl, rfl, rfl, Nat.le_refl _⟩)

theorem and15_i64 (x : Int) : ∃ k : Nat, k ≤ 15 ∧ bits .and .i64 x 15 = (k : Int) := by
  refine ⟨(BitVec.ofInt 64 x).toNat % 16, by omega, ?_⟩
  have e : bits .and .i64 x 15 = IntKind.i64.wrap (((BitVec.ofInt 64 x).toNat &&& 15 : Nat) : Int) := by
    show IntKind.i64.wrap ((BitVec.ofInt 64 x &&& BitVec.ofInt 64 15).toNat : Int) = _
    rw [BitVec.toNat_and]; rfl
  rw [e, show (15 : Nat) = 2 ^ 4 - 1 by decide, Nat.and_two_pow_sub_one_eq_mod, IntKind.wrap_i64]
  omega
theorem fuse_start (most : Nat) (h : most ≤ 15) : FI ((DM.fresh 5 200).setFuse (most : Int)) 0 most := by
  have e : (DM.fresh 5 200).setFuse (most : Int) = { DM.fresh 5 200 with fuse := (most : Int) } := by
    simp only [DM.setFuse]; congr 1 <;> omega
  rw [e]
  exact ⟨by simp, by simp, rfl, (fun h => by cases h), Nat.le_refl _, h⟩
/-- A dead device. -/
theorem dead_tells (m : DM) (hd : m.dead = true) (b : List UInt8) : m.read 0 = ([], 9) ∧ m.logR = ([], 9) ∧ m.markR = ([], 9) ∧ m.write 0 b = (m, 9) ∧ m.sync = (m, 9) ∧ m.append [] = (m, 9) ∧ m.force = (m, 9) ∧ m.cut 0 [] = (m, 9) ∧ m.trim 0 = (m, 9) ∧ m.setMark [] = (m, 9) := by
  simp [DM.read, DM.logR, DM.markR, DM.write, DM.sync, DM.append, DM.force, DM.cut, DM.trim, DM.setMark, hd]
theorem setFuse_keeps (m : DM) (n : Int) : (m.setFuse n).dead = m.dead ∧ (m.setFuse n).ops = m.ops ∧ (m.setFuse n).waiting = m.waiting := ⟨rfl, rfl, rfl⟩
end Go.Proofs.Ythgejjlhfdegeaa
