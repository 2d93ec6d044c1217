/- General words and laws over the heap (no program in sight): frames 'Chg', byte slices 'BS', laws for the walk. -/
import Derived.WalkKit
import Derived.OwnWalk
import Derived.Maps.AppendAt
import Derived.Laws.CopyOwn
import Derived.Laws.BytesArg
import Derived.Deep.Draws
namespace Go.Proofs.Ytjnbbmchmkiodaa
open Go.RowKit

theorem hide {p : Prop} (h : p) : Hid p := h

/-- Outside the blocks F the world w' is as w was (new blocks aside). -/
structure Chg (F : Nat → Prop) (w w' : World) : Prop where
  os : w'.os = w.os
  tape : w'.tape = w.tape
  output : w'.output = w.output
  size : w.heap.size ≤ w'.heap.size
  block : ∀ k, k < w.heap.size → ¬ F k → w'.heap[k]? = w.heap[k]?

def NoB : Nat → Prop := fun _ => False

theorem Chg.refl (F : Nat → Prop) (w : World) : Chg F w w := ⟨rfl, rfl, rfl, Nat.le_refl _, fun _ _ _ => rfl⟩
theorem Chg.trans {F : Nat → Prop} {a b c : World} (h : Chg F a b) (k : Chg F b c) : Chg F a c :=
  ⟨k.os.trans h.os, k.tape.trans h.tape, k.output.trans h.output, Nat.le_trans h.size k.size,
   fun i hi hn => (k.block i (Nat.lt_of_lt_of_le hi h.size) hn).trans (h.block i hi hn)⟩
/-- The second step may also write what the first has made. -/
theorem Chg.trans' {F G : Nat → Prop} {a b c : World} (h : Chg F a b) (k : Chg G b c) (hG : ∀ i, G i → F i ∨ a.heap.size ≤ i) : Chg F a c :=
  ⟨k.os.trans h.os, k.tape.trans h.tape, k.output.trans h.output, Nat.le_trans h.size k.size,
   fun i hi hn => (k.block i (Nat.lt_of_lt_of_le hi h.size) (fun g => (hG i g).elim hn (fun hh => by omega))).trans (h.block i hi hn)⟩
theorem Chg.mono {F G : Nat → Prop} {a b : World} (h : Chg F a b) (hF : ∀ i, F i → G i) : Chg G a b :=
  ⟨h.os, h.tape, h.output, h.size, fun i hi hn => h.block i hi (fun f => hn (hF i f))⟩
theorem Chg.alloc (F : Nat → Prop) (w : World) (o : Obj) : Chg F w (w.alloc o) :=
  ⟨rfl, rfl, rfl, by simp, fun k hk _ => Below.heap_alloc w o k hk⟩
theorem Chg.setCell {F : Nat → Prop} (w : World) {p : Addr} (hp : F p.block) (u : Value) : Chg F w (w.setCell p u) :=
  ⟨rfl, rfl, rfl, by simp [World.setCell], fun k _ hn => Below.heap_setCell _ _ _ _ (fun e => hn (e ▸ hp))⟩
theorem Chg.cell1 (w : World) (b i : Nat) (u : Value) : Chg (fun k => k = b) w (w.setCell ⟨b, i, none⟩ u) := Chg.setCell (F := fun k => k = b) w (p := ⟨b, i, none⟩) rfl u
theorem Chg.setRow {F : Nat → Prop} (w : World) {g : Nat} (hg : F g) (cs : Array Value) : Chg F w (w.setRow g cs) :=
  ⟨rfl, rfl, rfl, by simp [World.setRow], fun k _ hn => setRow_other w g k cs (fun e => hn (e ▸ hg))⟩
theorem Chg.drew (F : Nat → Prop) (w : World) : Chg F w w.drew := ⟨rfl, rfl, rfl, Nat.le_refl _, fun _ _ _ => rfl⟩
theorem Chg.drewN (F : Nat → Prop) (w : World) (n : Nat) : Chg F w (w.drewN n) := ⟨rfl, rfl, rfl, Nat.le_refl _, fun _ _ _ => rfl⟩
theorem Chg.grown {F : Nat → Prop} {a b : World} {row : Option Nat} (h : a.grownBy b row) (hr : ∀ k, row = some k → F k) : Chg F a b :=
  ⟨h.os, h.tape, h.output, h.size, fun k hk hn => h.block k hk (fun e => hn (hr k e.symm))⟩
theorem Chg.below {F : Nat → Prop} {B : Nat} {a b : World} (h : Chg F a b) (hF : ∀ k, F k → B ≤ k) (hB : B ≤ a.heap.size) : Below B a b :=
  ⟨h.os, h.tape, h.output, h.size, fun k hk => h.block k (by omega) (fun f => by have := hF k f; omega)⟩
theorem Chg.of_below {F : Nat → Prop} {B : Nat} {a b : World} (h : Below B a b) (hF : ∀ k, k < a.heap.size → ¬ F k → k < B) : Chg F a b :=
  ⟨h.os, h.tape, h.output, h.size, fun k hk hn => h.block k (hF k hk hn)⟩
theorem Chg.cell {F : Nat → Prop} {a b : World} (h : Chg F a b) {p : Addr} (hlt : p.block < a.heap.size) (hn : ¬ F p.block) : b.cell? p = a.cell? p :=
  World.cell?_of_block (h.block p.block hlt hn)
theorem Chg.frozen {F : Nat → Prop} {a b : World} (h : Chg F a b) {p : Addr} (hlt : p.block < a.heap.size) (hn : ¬ F p.block) : b.frozen? p = a.frozen? p :=
  World.frozen?_of_block (h.block p.block hlt hn)
theorem heap_lt {w : World} {b : Nat} {o : Obj} (h : w.heap[b]? = some o) : b < w.heap.size := (Array.getElem?_eq_some_iff.1 h).1
/-- A block outside F, known before, is known after. -/
theorem Chg.blk {F : Nat → Prop} {a b : World} (h : Chg F a b) {k : Nat} {o : Obj} (hk : a.heap[k]? = some o) (hn : ¬ F k) : b.heap[k]? = some o :=
  (h.block k (heap_lt hk) hn).trans hk

theorem setCell_blk {w : World} {b i : Nat} {cs : Array Value} {t : TypeId} {fr : Nat × Nat} (h : w.heap[b]? = some (.cells cs t fr)) (v : Value) :
    (w.setCell ⟨b, i, none⟩ v).heap[b]? = some (.cells (cs.setIfInBounds i v) t fr) := by
  simp only [World.setCell, Array.getElem?_modify, ↓reduceIte, h, Option.map_some]; simp
theorem setCell_blk_other {w : World} {b k i : Nat} {o : Obj} (h : w.heap[k]? = some o) (hne : k ≠ b) (v : Value) : (w.setCell ⟨b, i, none⟩ v).heap[k]? = some o := by
  rw [Below.heap_setCell _ _ _ _ hne]; exact h
theorem alloc_blk {w : World} {k : Nat} {o : Obj} (h : w.heap[k]? = some o) (p : Obj) : (w.alloc p).heap[k]? = some o := by
  rw [Below.heap_alloc w p k (heap_lt h)]; exact h

theorem heap_alloc_new' (w : World) {n : Nat} (h : n = w.heap.size) (o : Obj) : (w.alloc o).heap[n]? = some o := by subst h; exact heap_alloc_new w o

/-! ### Byte slices -/

def bcell (x : UInt8) : Value := .int .u8 x.toNat
def bcells (l : List UInt8) : List Value := l.map bcell
theorem bcells_length (l : List UInt8) : (bcells l).length = l.length := by simp [bcells]
theorem bcells_one (l : List UInt8) : ∀ u ∈ bcells l, u.oneCell' = true := by
  intro u hu
  obtain ⟨x, _, rfl⟩ := List.mem_map.1 hu
  rfl
theorem bcells_append (a b : List UInt8) : bcells (a ++ b) = bcells a ++ bcells b := by simp [bcells]

/-- The slice of address a, length n, capacity c reads as the bytes l. -/
structure BS (w : World) (a : Option Addr) (n c : Nat) (l : List UInt8) : Prop where
  len : n = l.length
  cap : n ≤ c
  nil : a = none → c = 0
  cell : ∀ b, a = some b → ∀ j u, (bcells l)[j]? = some u → w.cell? (b.add j) = some u

theorem add_block (b : Addr) (j : Nat) : (b.add j).block = b.block := by unfold Addr.add; split <;> rfl
theorem cell_some {w : World} {p : Addr} {v : Value} (h : w.cell? p = some v) : p.block < w.heap.size ∧ p.spot = none := by
  unfold World.cell? at h
  split at h
  · rename_i e
    refine ⟨heap_lt e, ?_⟩
    cases hs : p.spot with
    | none => rfl
    | some x => rw [hs] at h; simp at h
  · cases h
theorem BS.lt {w : World} {a : Option Addr} {n c : Nat} {l : List UInt8} (h : BS w a n c l) (hn : 0 < n) : ∀ b, a = some b → b.block < w.heap.size := fun b hb => by
  have hl : 0 < l.length := by rw [← h.len]; exact hn
  have := (cell_some (h.cell b hb 0 _ (by simp [bcells, hl]; rfl))).1
  rwa [add_block] at this
theorem BS.spot {w : World} {a : Option Addr} {n c : Nat} {l : List UInt8} (h : BS w a n c l) (hn : 0 < n) : ∀ b, a = some b → b.spot = none := fun b hb => by
  have hl : 0 < l.length := by rw [← h.len]; exact hn
  have := (cell_some (h.cell b hb 0 _ (by simp [bcells, hl]; rfl))).2
  simpa [Addr.add] using this
theorem BS.chgw {F : Nat → Prop} {w w' : World} {a : Option Addr} {n c : Nat} {l : List UInt8} (h : BS w a n c l) (hc : Chg F w w') (hn : ∀ b, a = some b → 0 < n → ¬ F b.block) : BS w' a n c l :=
  ⟨h.len, h.cap, h.nil, fun b hb j u hu => by
    have hc1 := h.cell b hb j u hu
    have hj : 0 < n := by
      rw [h.len]
      cases l with
      | nil => simp [bcells] at hu
      | cons x r => simp
    rw [hc.cell (cell_some hc1).1 (by rw [add_block]; exact hn b hb hj)]
    exact hc1⟩
theorem BS.chg {F : Nat → Prop} {w w' : World} {a : Option Addr} {n c : Nat} {l : List UInt8} (h : BS w a n c l) (hc : Chg F w w') (hn : ∀ b, a = some b → ¬ F b.block) : BS w' a n c l := h.chgw hc (fun b hb _ => hn b hb)
theorem BS.chg0 {w w' : World} {a : Option Addr} {n c : Nat} {l : List UInt8} (h : BS w a n c l) (hc : Chg NoB w w') : BS w' a n c l := h.chg hc (fun _ _ f => f)
theorem add_zero_off (g j : Nat) : (⟨g, 0, none⟩ : Addr).add j = ⟨g, j, none⟩ := by unfold Addr.add; split <;> simp_all
theorem BS.block {w : World} {g : Nat} {n c : Nat} {l : List UInt8} {cur : Array Value} {t : TypeId} {fr : Nat × Nat} (hg : w.heap[g]? = some (.cells cur t fr)) (hn : n = l.length) (hc : n ≤ c)
    (ht : cur.toList.take n = bcells l) : BS w (some ⟨g, 0, none⟩) n c l :=
  ⟨hn, hc, (fun h => by cases h), (fun b hb j u hu => by
    cases hb
    rw [add_zero_off, cell_of_row w g j cur t fr hg]
    rw [← ht, List.getElem?_take] at hu
    split at hu
    · simpa using hu
    · cases hu)⟩
theorem BS.nil' (w : World) : BS w none 0 0 [] := ⟨rfl, Nat.le_refl _, (fun _ => rfl), (fun _ h => by cases h)⟩
/-- What an append's or copy's law asks of its source. -/
theorem BS.some_of_pos {w : World} {a : Option Addr} {n c : Nat} {l : List UInt8} (h : BS w a n c l) (hp : 0 < c) : ∃ b, a = some b := by
  cases a with
  | none => have := h.nil rfl; omega
  | some b => exact ⟨b, rfl⟩

/-- A byte slice that is not empty, cell by cell. -/
theorem BS.form {w : World} {a : Option Addr} {n c : Nat} {l : List UInt8} (h : BS w a n c l) (hp : 0 < n) : ∃ bk off, a = some ⟨bk, off, none⟩ ∧ ∀ j, j < n → w.cell? ⟨bk, off + j, none⟩ = some (.int .u8 (l.getD j 0).toNat) := by
  obtain ⟨b, rfl⟩ := h.some_of_pos (Nat.lt_of_lt_of_le hp h.cap)
  have hs := h.spot hp b rfl
  obtain ⟨bk, off, sp⟩ := b
  simp only at hs
  subst hs
  refine ⟨bk, off, rfl, fun j hj => ?_⟩
  have hj' : j < l.length := by rw [← h.len]; exact hj
  have := h.cell _ rfl j (.int .u8 (l.getD j 0).toNat) (by simp [bcells, bcell, List.getD, hj'])
  have e1 : (⟨bk, off, none⟩ : Addr).add j = ⟨bk, off + j, none⟩ := by unfold Addr.add; split <;> simp_all
  rw [e1] at this; exact this

/-! ### Laws for the walk -/
section
variable {P : Program} {w : World} {ops : Array Oper} {rest : List Oper} {o : Oper} {a : Act} {Q : Exit → Act → World → Prop}

/-- 'make([]T, l, c)' of plain lengths: the world is known. -/
theorem wpList_mk (hg : o.guard = none) (lo co : Operand) (t : TypeId) (hop : o.op = Op.makeSlice t lo co)
    (e : TypeId) (i : TypeInfo) (z : Value) (size bytes : Nat) (h1 : P.underlying t = some (.slice e)) (h2 : P.info? e = some i) (h3 : i.zero = some z) (h4 : i.size = size) (h5 : i.bytes = bytes)
    (kl kc : IntKind) (L C : Nat) (hl : a.eval lo = .int kl L) (hc : a.eval co = .int kc C) (hLC : L ≤ C) (b2 : bytes * C ≤ 281474976710656) (b3 : C ≤ maxLen)
    (hK : wpList P ops Q rest (a.put o.dst (.slice (some ⟨w.heap.size, 0, none⟩) L C)) (w.alloc (.cells (madeCells z.cells (C * size)) e))) : wpList P ops Q (o :: rest) a w := by
  refine wpList_plain hg fun K hK' => ?_
  subst h4; subst h5
  have hb2 : (i.bytes : Int) * (C : Int) ≤ 281474976710656 := by
    have h : ((i.bytes * C : Nat) : Int) ≤ 281474976710656 := by omega
    rwa [Int.natCast_mul] at h
  have hb3 : (C : Int) ≤ 9223372036854775807 := by
    have h := b3
    simp [maxLen] at h
    omega
  have hrun := run_make (P := P) w t e i z h1 h2 h3 kl kc L C (by omega) (by omega) hb2 hb3
  simp only [Int.toNat_natCast] at hrun
  unfold Oper.wp
  simp [execOp, hop, hl, hc, hrun, Result.andThen]
  exact hK' _ _ hK

/-- append of a byte slice onto a slice at the head of a block of its own, with room: the world is known. -/
theorem wpList_app_room (hg : o.guard = none) (s x : Operand) (t : TypeId) (hop : o.op = .call { callee := .builtin .append, args := #[s, x], argTypes := #[t, t] })
    (e : TypeId) (i : TypeInfo) (h1 : P.underlying t = some (.slice e)) (h2 : P.info? e = some i) (h4 : i.size = 1)
    (g k cap : Nat) (cur : Array Value) (hs : a.eval s = .slice (some ⟨g, 0, none⟩) k cap) (hcur : w.heap[g]? = some (.cells cur e (0, 0))) (xa : Option Addr) (n c : Nat) (l : List UInt8)
    (hx : a.eval x = .slice xa n c) (hb : BS w xa n c l) (hroom : k + n ≤ cap) (hfit : k + n ≤ cur.size)
    (hK : wpList P ops Q rest (a.put o.dst (.slice (some ⟨g, 0, none⟩) (k + n) cap)) (w.setRow g (cur.toList.take k ++ bcells l ++ cur.toList.drop (k + n)).toArray)) : wpList P ops Q (o :: rest) a w := by
  have hlen := hb.len
  cases xa with
  | some ad =>
    refine wpList_plain hg fun K hK' => ?_
    have hrun := run_append_room (P := P) w t o.type e i h1 h2 g k cap cur hcur ad n c (bcells l) (by rw [bcells_length, h4]; omega) (hb.cell ad rfl) (bcells_one l) hroom (by rw [bcells_length, h4]; omega)
    rw [h4, bcells_length, ← hlen] at hrun
    simp only [Nat.mul_one] at hrun
    unfold Oper.wp execOp
    simp only [hop, resolve, invoke, builtin, Sem.run_bind, Sem.run_pure, Result.andThen_ok, List.map_toArray, List.map_cons, List.map_nil, hs, hx, hrun]
    exact hK' _ _ hK
  | none =>
    have hc0 := hb.nil rfl
    have hn0 : n = 0 := by have := hb.cap; omega
    subst hn0
    have hl0 : l = [] := List.eq_nil_of_length_eq_zero hlen.symm
    subst hl0
    refine wpList_plain hg fun K hK' => ?_
    have hrun : (Builtin.append_ #[t, t] o.type #[.slice (some ⟨g, 0, none⟩) k cap, .slice none 0 c]).run P w = .ok (.slice (some ⟨g, 0, none⟩) k cap) w := by
      simp [Builtin.append_, run_underlying h1, sizeOf, typeInfo, h2, Builtin.lenOf, Builtin.firstCells, storeCells, (show k ≤ cap by omega)]
    have hw : w.setRow g (cur.toList.take k ++ bcells [] ++ cur.toList.drop (k + 0)).toArray = w := by
      have e1 : (cur.toList.take k ++ bcells [] ++ cur.toList.drop (k + 0)).toArray = cur := by simp [bcells]
      rw [e1]
      unfold World.setRow
      congr 1
      apply Array.ext_getElem?
      intro j
      rw [Array.getElem?_modify]
      by_cases hj : g = j
      · subst hj; simp [hcur]
      · simp [hj]
    rw [hw] at hK
    unfold Oper.wp execOp
    simp only [hop, resolve, invoke, builtin, Sem.run_bind, Sem.run_pure, Result.andThen_ok, List.map_toArray, List.map_cons, List.map_nil, hs, hx, hrun]
    exact hK' _ _ hK
end

/-- An operation that yields a value. -/
theorem wpList_run {P : Program} {w w' : World} {ops : Array Oper} {rest : List Oper} {o : Oper} {a : Act} {Q : Exit → Act → World → Prop} {v : Value} (hg : o.guard = none) (h : (execOp a.eval o).run P w = .ok (.value v) w')
    (hK : wpList P ops Q rest (a.put o.dst v) w') : wpList P ops Q (o :: rest) a w := by
  refine wpList_plain hg fun K hK' => ?_
  unfold Oper.wp
  rw [h]
  exact hK' _ _ hK

/-! ### Parts of a byte slice -/
theorem blkOf_sub {a : Option Addr} {c lo : Nat} {k : Nat} (h : ∃ b, (if c = lo then a else a.map (·.add lo)) = some b ∧ b.block = k) : ∃ b, a = some b ∧ b.block = k := by
  split at h
  · exact h
  · cases a with
    | none => obtain ⟨b, hb, _⟩ := h; cases hb
    | some x =>
      obtain ⟨b, hb, hk⟩ := h
      simp only [Option.map_some, Option.some.injEq] at hb
      subst hb
      exact ⟨x, rfl, by rw [← hk, add_block]⟩
theorem add_add' (b : Addr) (hs : b.spot = none) (i j : Nat) : (b.add i).add j = b.add (i + j) := by
  obtain ⟨k, o, s⟩ := b
  simp only at hs
  subst hs
  unfold Addr.add
  by_cases hi : i = 0
  · subst hi; simp
  · by_cases hj : j = 0
    · subst hj; simp
    · simp [hi, hj, Nat.add_assoc]
theorem add_spot (b : Addr) (hs : b.spot = none) (i : Nat) : (b.add i).spot = none := by
  unfold Addr.add; split <;> simp [hs]
theorem BS.sub {w : World} {a : Option Addr} {n c : Nat} {l : List UInt8} (h : BS w a n c l) {lo hi m : Nat} (h1 : lo ≤ hi) (h2 : hi ≤ n) (h3 : hi ≤ m) (h4 : m ≤ c) :
    BS w (if m = lo then a else a.map (·.add lo)) (hi - lo) (m - lo) ((l.take hi).drop lo) := by
  have hl := h.len
  have hlen : hi - lo = ((l.take hi).drop lo).length := by simp; omega
  by_cases hc : m = lo
  · have hz : (l.take hi).drop lo = [] := List.eq_nil_of_length_eq_zero (by rw [← hlen]; omega)
    rw [if_pos hc]
    refine ⟨hlen, by omega, fun _ => by omega, fun b hb j u hu => ?_⟩
    rw [hz] at hu
    simp [bcells] at hu
  · rw [if_neg hc]
    cases a with
    | none => have := h.nil rfl; omega
    | some x =>
      refine ⟨hlen, by omega, (fun h => by cases h), ?_⟩
      intro b hb j u hu
      simp only [Option.map_some, Option.some.injEq] at hb
      subst hb
      have hj : lo + j < hi := by
        rcases Nat.lt_or_ge (lo + j) hi with hj | hj
        · exact hj
        · simp only [bcells, List.getElem?_map, List.getElem?_drop] at hu
          rw [List.getElem?_eq_none (by simp; omega)] at hu; cases hu
      rw [add_add' x (h.spot (by omega) x rfl)]
      refine h.cell x rfl (lo + j) u ?_
      simp only [bcells, List.getElem?_map] at hu ⊢
      rw [List.getElem?_drop] at hu
      rw [List.getElem?_take_of_lt hj] at hu; exact hu

section
variable {P : Program} {w : World} {ops : Array Oper} {rest : List Oper} {o : Oper} {a : Act} {Q : Exit → Act → World → Prop}
/-- 'x[lo:]' of a byte slice. -/
theorem wpList_sub_lo (hg : o.guard = none) (x y : Operand) (t : TypeId) (hop : o.op = Op.slice t x (some y) none none) (ht : P.underlying t = some (.slice (P.elem t))) (hs : (P.info? (P.elem t)).map (·.size) = some 1)
    (xa : Option Addr) (n c : Nat) (l : List UInt8) (hx : a.eval x = .slice xa n c) (hb : BS w xa n c l) (kl : IntKind) (lo : Int) (hlo : a.eval y = .int kl lo) (h0 : 0 ≤ lo) (h1 : lo ≤ n)
    (hK : ∀ a', BS w a' (n - lo.toNat) (c - lo.toNat) (l.drop lo.toNat) → (∀ k, (∃ b, a' = some b ∧ b.block = k) → ∃ b, xa = some b ∧ b.block = k) → wpList P ops Q rest (a.put o.dst (.slice a' (n - lo.toNat) (c - lo.toNat))) w) : wpList P ops Q (o :: rest) a w := by
  obtain ⟨i, hi, hsz⟩ := Option.map_eq_some_iff.1 hs
  have hc := hb.cap
  have hB := hb.sub (lo := lo.toNat) (hi := n) (m := c) (by omega) (Nat.le_refl _) hc (Nat.le_refl _)
  rw [List.take_of_length_le (by rw [hb.len]; exact Nat.le_refl _)] at hB
  refine wpList_run hg (v := .slice (if c = lo.toNat then xa else xa.map (·.add lo.toNat)) (n - lo.toNat) (c - lo.toNat)) (w' := w) ?_ (hK _ hB (fun k hk => blkOf_sub hk))
  simp [execOp, hop, hx, hlo, run_sliceAt_slice w t _ _ _ _ ht, run_slice_l w t xa n c ht kl lo h0 h1, sizeOf, typeInfo, hi, hsz, sliced, Result.andThen]
/-- 'x[:hi]' of a byte slice. -/
theorem wpList_sub_hi (hg : o.guard = none) (x y : Operand) (t : TypeId) (hop : o.op = Op.slice t x none (some y) none) (ht : P.underlying t = some (.slice (P.elem t))) (hs : (P.info? (P.elem t)).map (·.size) = some 1)
    (xa : Option Addr) (n c : Nat) (l : List UInt8) (hx : a.eval x = .slice xa n c) (hb : BS w xa n c l) (kl : IntKind) (hi : Int) (hhi : a.eval y = .int kl hi) (h0 : 0 ≤ hi) (h1 : hi ≤ n)
    (hK : ∀ a', BS w a' hi.toNat c (l.take hi.toNat) → (∀ k, (∃ b, a' = some b ∧ b.block = k) → ∃ b, xa = some b ∧ b.block = k) → wpList P ops Q rest (a.put o.dst (.slice a' hi.toNat c)) w) : wpList P ops Q (o :: rest) a w := by
  obtain ⟨i, hi', hsz⟩ := Option.map_eq_some_iff.1 hs
  have hc := hb.cap
  have hB := hb.sub (lo := 0) (hi := hi.toNat) (m := c) (by omega) (by omega) (by omega) (Nat.le_refl _)
  simp only [List.drop_zero, Nat.sub_zero] at hB
  refine wpList_run hg (v := .slice (if c = 0 then xa else xa.map (·.add 0)) hi.toNat c) (w' := w) ?_ (hK _ hB (fun k hk => blkOf_sub hk))
  simp [execOp, hop, hx, hhi, run_sliceAt_slice w t _ _ _ _ ht, run_slice_h w t xa n c ht kl hi h0 (by omega), sizeOf, typeInfo, hi', hsz, sliced, Result.andThen]
/-- 'x[lo:hi]' of a byte slice. -/
theorem wpList_sub_lh (hg : o.guard = none) (x y z : Operand) (t : TypeId) (hop : o.op = Op.slice t x (some y) (some z) none) (ht : P.underlying t = some (.slice (P.elem t))) (hs : (P.info? (P.elem t)).map (·.size) = some 1)
    (xa : Option Addr) (n c : Nat) (l : List UInt8) (hx : a.eval x = .slice xa n c) (hb : BS w xa n c l) (kl kh : IntKind) (lo hi : Int) (hlo : a.eval y = .int kl lo) (hhi : a.eval z = .int kh hi) (h0 : 0 ≤ lo) (h1 : lo ≤ hi) (h2 : hi ≤ n)
    (hK : ∀ a', BS w a' (hi.toNat - lo.toNat) (c - lo.toNat) ((l.take hi.toNat).drop lo.toNat) → (∀ k, (∃ b, a' = some b ∧ b.block = k) → ∃ b, xa = some b ∧ b.block = k) → wpList P ops Q rest (a.put o.dst (.slice a' (hi.toNat - lo.toNat) (c - lo.toNat))) w) : wpList P ops Q (o :: rest) a w := by
  obtain ⟨i, hi', hsz⟩ := Option.map_eq_some_iff.1 hs
  have hc := hb.cap
  have hB := hb.sub (lo := lo.toNat) (hi := hi.toNat) (m := c) (by omega) (by omega) (by omega) (Nat.le_refl _)
  refine wpList_run hg (v := .slice (if c = lo.toNat then xa else xa.map (·.add lo.toNat)) (hi.toNat - lo.toNat) (c - lo.toNat)) (w' := w) ?_ (hK _ hB (fun k hk => blkOf_sub hk))
  simp [execOp, hop, hx, hlo, hhi, run_sliceAt_slice w t _ _ _ _ ht, run_slice_lh w t xa n c ht kl kh lo hi h0 h1 (by omega), sizeOf, typeInfo, hi', hsz, sliced, Result.andThen]

/-- 'string(b)'. -/
theorem run_str {T e D : TypeId} (hT : P.underlying T = some (.slice e)) (he : P.underlying e = some (.int .u8)) (hD : P.underlying D = some .string) {xa : Option Addr} {n c : Nat} {l : List UInt8} (hb : BS w xa n c l) :
    (convert T D (.slice xa n c)).run P w = .ok (.string ⟨l.toArray⟩) w := by
  have hl := hb.len
  cases xa with
  | none =>
    have := hb.nil rfl
    have := hb.cap
    have hz : l = [] := List.eq_nil_of_length_eq_zero (by omega)
    subst hz
    rw [run_convert_bytes_nil w T e hT he n c D hD]; rfl
  | some b =>
    have hld : (loadCells b n).run P w = .ok ((l.map fun x => (x.toNat : Int)).map (Value.int .u8)).toArray w := by
      have := run_loadCells_list (P := P) w b (bcells l) (fun j v hj => hb.cell b rfl j v hj)
      rw [bcells_length, ← hl] at this
      rw [this]
      congr 2
      simp [bcells, bcell]
    rw [run_convert_bytes_string w T D e _ n c hT he hD, run_bytesToString w _ n c _ hld, foldl_push_bytes]
    simp [ByteArray.empty, ByteArray.emptyWithCapacity]
    have : (fun n : Int => UInt8.ofNat n.toNat) ∘ (fun x : UInt8 => (x.toNat : Int)) = id := by funext x; simp
    first | rfl | (rw [this, List.map_id]; rfl) | (simp [Function.comp_def]; rfl)
theorem wpList_str (hg : o.guard = none) (x : Operand) (T D : TypeId) (hop : o.op = Op.convert T D x) (e : TypeId) (hT : P.underlying T = some (.slice e)) (he : P.underlying e = some (.int .u8)) (hD : P.underlying D = some .string)
    (xa : Option Addr) (n c : Nat) (l : List UInt8) (hx : a.eval x = .slice xa n c) (hb : BS w xa n c l)
    (hK : wpList P ops Q rest (a.put o.dst (.string ⟨l.toArray⟩)) w) : wpList P ops Q (o :: rest) a w := by
  refine wpList_run hg (v := .string ⟨l.toArray⟩) (w' := w) ?_ hK
  simp [execOp, hop, hx, run_str hT he hD hb, Result.andThen]

/-- append onto a slice of one's own; the source may be nil. -/
theorem run_app_own (s x : Operand) (t : TypeId) (hop : o.op = .call { callee := .builtin .append, args := #[s, x], argTypes := #[t, t] })
    (e : TypeId) (i : TypeInfo) (z : Value) (size bytes : Nat) (ht : P.underlying t = some (.slice e)) (hi : P.info? e = some i) (hz : i.zero = some z)
    (hsize : i.size = size) (hby : i.bytes = bytes) (hzs : z.cells.size = size) (hsz : 0 < size)
    (sa : Option Addr) (n sc : Nat) (xs : List Value) (hs : a.eval s = .slice sa n sc) (hown : w.ownsRow 0 e size (.slice sa n sc) n xs)
    (xa : Option Addr) (m c : Nat) (news : List Value) (hx : a.eval x = .slice xa m c) (hnil : xa = none → m = 0 ∧ c = 0) (hl : news.length = m * size) (hnews : ∀ ad, xa = some ad → ∀ j u, news[j]? = some u → w.cell? (ad.add j) = some u) (h1 : ∀ u ∈ news, u.oneCell' = true)
    (h63 : n + m ≤ maxLen) (hbytes : (n + m) * bytes ≤ 140737488355328) :
    ∃ a' c' w', (execOp a.eval o).run P w = .ok (.value (.slice a' (n + m) c')) w' ∧ w'.ownsRow 0 e size (.slice a' (n + m) c') (n + m) (xs ++ news) ∧ Chg (fun k => ∃ b, sa = some b ∧ b.block = k) w w' ∧ (∀ k, (∃ b, a' = some b ∧ b.block = k) → (∃ b, sa = some b ∧ b.block = k) ∨ w.heap.size ≤ k) := by
  have hform : ∀ v', ∀ w' : World, w'.ownsRow 0 e size v' (n + m) (xs ++ news) → ∃ a' c', v' = .slice a' (n + m) c' := by
    intro v' w' ho
    rcases ho.2 with ⟨rfl, h0⟩ | ⟨g, cap, cur, hv, _⟩
    · exact ⟨none, 0, by rw [h0]⟩
    · exact ⟨_, _, hv⟩
  cases xa with
  | some ad =>
    obtain ⟨v', w', hr, ho, hgr, _, hat⟩ := run_append_own_at (P := P) w 0 t o.type e i z size bytes ht hi hz hsize hby hzs hsz _ n xs hown ad m c news hl (hnews ad rfl) h1 h63 hbytes (Nat.zero_le _)
    obtain ⟨a', c', rfl⟩ := hform v' w' ho
    refine ⟨a', c', w', ?_, ho, Chg.grown hgr ?_, ?_⟩
    · unfold execOp
      simp only [hop, resolve, invoke, builtin, Sem.run_bind, Sem.run_pure, Result.andThen_ok, List.map_toArray, List.map_cons, List.map_nil, hs, hx, hr]
    · intro k hk
      cases sa with
      | none => simp [Value.ownBlock] at hk
      | some b => simp only [Value.ownBlock, Option.some.injEq] at hk; exact ⟨b, rfl, hk⟩
    · rintro k ⟨b, rfl, rfl⟩
      simp only [Value.ownBlock] at hat
      rcases hat with hat | hat
      · cases sa with
        | none => simp at hat
        | some b' => simp only [Option.some.injEq] at hat; exact .inl ⟨b', rfl, hat.symm⟩
      · simp only [Option.some.injEq] at hat; exact .inr (by omega)
  | none =>
    obtain ⟨hm, hc0⟩ := hnil rfl
    subst hm
    subst hc0
    have hn : news = [] := List.eq_nil_of_length_eq_zero (by simpa using hl)
    subst hn
    have hrun := run_append_owned_none (P := P) w 0 t o.type e i size ht hi _ n xs hown
    refine ⟨sa, sc, w, ?_, by simpa using hown, Chg.refl _ _, fun k hk => .inl hk⟩
    unfold execOp
    simp only [hop, resolve, invoke, builtin, Sem.run_bind, Sem.run_pure, Result.andThen_ok, List.map_toArray, List.map_cons, List.map_nil, hs, hx, hrun]
    rfl
theorem wpList_app_own (hg : o.guard = none) (s x : Operand) (t : TypeId) (hop : o.op = .call { callee := .builtin .append, args := #[s, x], argTypes := #[t, t] })
    (e : TypeId) (i : TypeInfo) (z : Value) (size bytes : Nat) (ht : P.underlying t = some (.slice e)) (hi : P.info? e = some i) (hz : i.zero = some z)
    (hsize : i.size = size) (hby : i.bytes = bytes) (hzs : z.cells.size = size) (hsz : 0 < size)
    (sa : Option Addr) (n sc : Nat) (xs : List Value) (hs : a.eval s = .slice sa n sc) (hown : w.ownsRow 0 e size (.slice sa n sc) n xs)
    (xa : Option Addr) (m c : Nat) (news : List Value) (hx : a.eval x = .slice xa m c) (hnil : xa = none → m = 0 ∧ c = 0) (hl : news.length = m * size) (hnews : ∀ ad, xa = some ad → ∀ j u, news[j]? = some u → w.cell? (ad.add j) = some u) (h1 : ∀ u ∈ news, u.oneCell' = true)
    (h63 : n + m ≤ maxLen) (hbytes : (n + m) * bytes ≤ 140737488355328)
    (h : ∀ a' c' w', w'.ownsRow 0 e size (.slice a' (n + m) c') (n + m) (xs ++ news) → Chg (fun k => ∃ b, sa = some b ∧ b.block = k) w w' → (∀ k, (∃ b, a' = some b ∧ b.block = k) → (∃ b, sa = some b ∧ b.block = k) ∨ w.heap.size ≤ k) → wpList P ops Q rest (a.put o.dst (.slice a' (n + m) c')) w') :
    wpList P ops Q (o :: rest) a w := by
  obtain ⟨a', c', w', hr, r1, r2, r3⟩ := run_app_own (P := P) (o := o) (a := a) (w := w) s x t hop e i z size bytes ht hi hz hsize hby hzs hsz sa n sc xs hs hown xa m c news hx hnil hl hnews h1 h63 hbytes
  exact wpList_run hg hr (h a' c' w' r1 r2 r3)
/-- A step of a region that draws its order. -/
theorem step_run {K : Act → World → Prop} {E : Prop} {v : Value} {w' : World} (hg : o.guard = none) (h : (execOp a.eval o).run P w = .ok (.value v) w') (hK : K (a.put o.dst v) w') : if Region.wanted o (yielded ops a.tmps) = true then Oper.wp P o a w K Q else E := by
  have hw : Region.wanted o (yielded ops a.tmps) = true := by simp [Region.wanted, hg]
  rw [if_pos hw]
  unfold Oper.wp
  rw [h]
  exact hK
theorem step_app_own {K : Act → World → Prop} {E : Prop} (hg : o.guard = none) (s x : Operand) (t : TypeId) (hop : o.op = .call { callee := .builtin .append, args := #[s, x], argTypes := #[t, t] })
    (e : TypeId) (i : TypeInfo) (z : Value) (size bytes : Nat) (ht : P.underlying t = some (.slice e)) (hi : P.info? e = some i) (hz : i.zero = some z)
    (hsize : i.size = size) (hby : i.bytes = bytes) (hzs : z.cells.size = size) (hsz : 0 < size)
    (sa : Option Addr) (n sc : Nat) (xs : List Value) (hs : a.eval s = .slice sa n sc) (hown : w.ownsRow 0 e size (.slice sa n sc) n xs)
    (xa : Option Addr) (m c : Nat) (news : List Value) (hx : a.eval x = .slice xa m c) (hnil : xa = none → m = 0 ∧ c = 0) (hl : news.length = m * size) (hnews : ∀ ad, xa = some ad → ∀ j u, news[j]? = some u → w.cell? (ad.add j) = some u) (h1 : ∀ u ∈ news, u.oneCell' = true)
    (h63 : n + m ≤ maxLen) (hbytes : (n + m) * bytes ≤ 140737488355328)
    (h : ∀ a' c' w', w'.ownsRow 0 e size (.slice a' (n + m) c') (n + m) (xs ++ news) → Chg (fun k => ∃ b, sa = some b ∧ b.block = k) w w' → (∀ k, (∃ b, a' = some b ∧ b.block = k) → (∃ b, sa = some b ∧ b.block = k) ∨ w.heap.size ≤ k) → K (a.put o.dst (.slice a' (n + m) c')) w') :
    if Region.wanted o (yielded ops a.tmps) = true then Oper.wp P o a w K Q else E := by
  obtain ⟨a', c', w', hr, r1, r2, r3⟩ := run_app_own (P := P) (o := o) (a := a) (w := w) s x t hop e i z size bytes ht hi hz hsize hby hzs hsz sa n sc xs hs hown xa m c news hx hnil hl hnews h1 h63 hbytes
  exact step_run hg hr (h a' c' w' r1 r2 r3)
end
theorem BS.own {w : World} {e : TypeId} {base : Nat} {a : Option Addr} {n c : Nat} {l : List UInt8} (h : w.ownsRow base e 1 (.slice a n c) n (bcells l)) : BS w a n c l := by
  have hl := h.1
  rw [bcells_length, Nat.mul_one] at hl
  rcases h.2 with ⟨hv, h0⟩ | ⟨g, cap, cur, hv, _, hg, h1, _, _, ht⟩
  · simp only [Value.slice.injEq] at hv
    obtain ⟨rfl, _, rfl⟩ := hv
    subst h0
    have : l = [] := List.eq_nil_of_length_eq_zero hl
    subst this
    exact BS.nil' w
  · simp only [Value.slice.injEq] at hv
    obtain ⟨rfl, _, rfl⟩ := hv
    exact BS.block hg hl.symm h1 (by simpa using ht)
/-- A block of bytes is owned. -/
theorem own_of_block {w : World} {e : TypeId} {g : Nat} {l : List UInt8} (hg : w.heap[g]? = some (.cells (bcells l).toArray e (0, 0))) (hm : l.length ≤ maxLen) : w.ownsRow 0 e 1 (.slice (some ⟨g, 0, none⟩) l.length l.length) l.length (bcells l) :=
  ⟨by rw [bcells_length, Nat.mul_one], .inr ⟨g, _, _, rfl, Nat.zero_le _, hg, Nat.le_refl _, hm, by simp [bcells_length], by simp [List.take_of_length_le, bcells_length]⟩⟩

section
variable {P : Program} {w : World} {ops : Array Oper} {rest : List Oper} {o : Oper} {a : Act} {Q : Exit → Act → World → Prop}
/-- 'copy' into a block known whole, from its head on (elements of one cell); the source may be nil. -/
theorem wpList_cp (hg : o.guard = none) (d s : Operand) (dT sT : TypeId) (hop : o.op = .call { callee := .builtin .copy, args := #[d, s], argTypes := #[dT, sT] })
    (e : TypeId) (hu : P.underlying dT = some (.slice e)) (hsz : (P.info? e).map (·.size) = some 1)
    (g dLen dCap : Nat) (hd : a.eval d = .slice (some ⟨g, 0, none⟩) dLen dCap) (sp : Option Addr) (sLen sCap : Nat) (hs : a.eval s = .slice sp sLen sCap)
    (cur : List Value) (t : TypeId) (hcur : w.heap[g]? = some (.cells cur.toArray t (0, 0))) (hlen : cur.length = dLen) (xs : List Value) (hxl : xs.length = sLen) (hx1 : ∀ v ∈ xs, v.oneCell' = true)
    (hsrc : 0 < sLen → ∃ ad, sp = some ad ∧ ∀ j v, xs[j]? = some v → w.cell? (ad.add j) = some v)
    (hK : wpList P ops Q rest (a.put o.dst (goInt (Nat.min sLen dLen))) (w.setRow g (xs.take dLen ++ cur.drop sLen).toArray)) : wpList P ops Q (o :: rest) a w := by
  by_cases h0 : Nat.min sLen dLen = 0
  · have hw : w.setRow g (xs.take dLen ++ cur.drop sLen).toArray = w := by
      have e1 : xs.take dLen ++ cur.drop sLen = cur := by
        rcases Nat.min_eq_zero_iff.1 h0 with h | h
        · subst h; rw [List.eq_nil_of_length_eq_zero hxl]; simp
        · subst h; rw [List.eq_nil_of_length_eq_zero hlen]; simp
      rw [e1]
      unfold World.setRow
      congr 1
      apply Array.ext_getElem?
      intro j
      rw [Array.getElem?_modify]
      by_cases hj : g = j
      · subst hj; simp [hcur]
      · simp [hj]
    rw [hw, h0] at hK
    exact wpList_copy_nothing hg d s dT sT hop e hu hsz _ _ _ _ _ _ hd hs h0 hK
  · have hpos : 0 < sLen := by
      rcases Nat.eq_zero_or_pos sLen with h | h
      · subst h; exact absurd (Nat.zero_min _) h0
      · exact h
    obtain ⟨ad, rfl, hcell⟩ := hsrc hpos
    have hm : (xs.take dLen).length = Nat.min sLen dLen := by rw [List.length_take, hxl, Nat.min_comm]
    refine wpList_copy_own hg d s dT sT hop e hu hsz g 0 dLen dCap ad sLen sCap hd hs cur.toArray t hcur (xs.take dLen) hm ?_ ?_ ?_ ?_
    · intro j v hj
      rw [List.getElem?_take] at hj
      split at hj
      · exact hcell j v hj
      · cases hj
    · rw [hm]; simp only [Nat.zero_add, List.size_toArray, hlen]; exact Nat.min_le_right _ _
    · intro v hv; exact hx1 v (List.mem_of_mem_take hv)
    · rw [hm]
      simp only [List.take_zero, List.nil_append, Nat.zero_add]
      have e2 : cur.drop (Nat.min sLen dLen) = cur.drop sLen := by
        by_cases h : sLen ≤ dLen
        · rw [show Nat.min sLen dLen = sLen from Nat.min_eq_left h]
        · rw [show Nat.min sLen dLen = dLen from Nat.min_eq_right (by omega), List.drop_of_length_le (by omega), List.drop_of_length_le (by omega)]
      rw [e2]
      exact hK
end
theorem Chg.setRow1 (w : World) (g : Nat) (cs : Array Value) : Chg (fun k => k = g) w (w.setRow g cs) := Chg.setRow (F := fun k => k = g) w rfl cs
/-- An owned row that is not empty, cell by cell. -/
theorem row_cells {w : World} {base : Nat} {e : TypeId} {size : Nat} {a : Option Addr} {k c n : Nat} {xs : List Value} (h : w.ownsRow base e size (.slice a k c) n xs) (hn : 0 < n) :
    ∃ g, a = some ⟨g, 0, none⟩ ∧ g < w.heap.size ∧ ∀ j v, xs[j]? = some v → w.cell? ⟨g, j, none⟩ = some v := by
  rcases h.2 with ⟨_, h0⟩ | ⟨g, cap, cur, hv, _, hg, _⟩
  · omega
  · simp only [Value.slice.injEq] at hv
    obtain ⟨rfl, rfl, rfl⟩ := hv
    refine ⟨g, rfl, heap_lt hg, fun j v hj => ?_⟩
    have := h.cells (g := g) rfl j v hj
    rwa [add_zero_off] at this
theorem flat2 {α : Type} (f : α → List Value) (hf : ∀ x, (f x).length = 2) : ∀ (l : List α) (k : Nat) (x : α), l[k]? = some x → (l.flatMap f)[k * 2]? = (f x)[0]? ∧ (l.flatMap f)[k * 2 + 1]? = (f x)[1]?
  | [], k, x, h => by cases h
  | y :: r, 0, x, h => by
    simp only [List.getElem?_cons_zero, Option.some.injEq] at h
    subst h
    simp only [List.flatMap_cons]
    have := hf y
    refine ⟨?_, ?_⟩
    · rw [List.getElem?_append_left (by omega)]
    · rw [List.getElem?_append_left (by omega)]
  | y :: r, k + 1, x, h => by
    simp only [List.getElem?_cons_succ] at h
    have ih := flat2 f hf r k x h
    have := hf y
    simp only [List.flatMap_cons]
    refine ⟨?_, ?_⟩
    · rw [List.getElem?_append_right (by omega), show (k + 1) * 2 - (f y).length = k * 2 from by omega]; exact ih.1
    · rw [List.getElem?_append_right (by omega), show (k + 1) * 2 + 1 - (f y).length = k * 2 + 1 from by omega]; exact ih.2

theorem setRow_alloc (w : World) (c c' : Array Value) (t : TypeId) : (w.alloc (.cells c t)).setRow w.heap.size c' = w.alloc (.cells c' t) := by
  unfold World.setRow World.alloc
  simp only
  congr 1
  apply Array.ext_getElem?
  intro j
  rw [Array.getElem?_modify]
  by_cases hj : w.heap.size = j
  · subst hj; simp
  · simp [hj, Array.getElem?_push, (show ¬ j = w.heap.size from fun h => hj h.symm)]
end Go.Proofs.Ytjnbbmchmkiodaa
