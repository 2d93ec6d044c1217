/- Free. -/
import Derived.Test.YtjnbbmchmkiodaaLkQ6
import Derived.Deep.DeepCutAuto
namespace Go.Proofs.Ytjnbbmchmkiodaa
open Go.RowKit Go.MapKept

set_option linter.unusedSimpArgs false
def TM.namesOf (m : TM) (o : Int) : ByteArray → Bool := (m.names o).getD (fun _ => false)
def TM.touched (m : TM) (o : Int) : ByteArray → Bool := fun x => (match m.waits o with | some g => decide (x = g.1) | none => false) || m.namesOf o x

/-- Behind the first three statements: the map of the names that an owner holds, or a new one. -/
structure FrA (w wx : World) (tb : Nat) (m : TM) (L : TL) (ρ : Nat → Role) (o : Int) (b : Nat) : Prop where
  chg : Chg NoB w wx
  mp : MapAt wx b .string encS (setF (m.namesOf o))
  bx : wx.cell? ⟨w.heap.size, 0, none⟩ = some (.int .u64 o)
  at' : (∃ f, m.names o = some f ∧ b = L.nm o) ∨ (m.names o = none ∧ w.heap.size < b)
theorem FrA.go {w wx wy : World} {tb : Nat} {m : TM} {L : TL} {ρ : Nat → Role} {o : Int} {b : Nat} (h : FrA w wx tb m L ρ o b) (hc : Chg NoB wx wy) : FrA w wy tb m L ρ o b :=
  ⟨h.chg.trans hc, h.mp.chg hc (fun f => f), (hc.cell (cell_some h.bx).1 (fun f => f)).trans h.bx, h.at'⟩
/-- Behind the sixth: all names that are touched. -/
structure FrB (w wx : World) (tb : Nat) (m : TM) (L : TL) (ρ : Nat → Role) (o : Int) (b : Nat) : Prop where
  tab : ∃ m', Tab wx tb m' L ρ ∧ m'.delNames o = m.delNames o
  own : TOwn w ρ wx ρ
  mp : MapAt wx b .string encS (setF (m.touched o))
  bx : wx.cell? ⟨w.heap.size, 0, none⟩ = some (.int .u64 o)
  rb : ρ b = .inner o ∨ ρ b = .none
theorem FrA.role {w wx : World} {tb : Nat} {m : TM} {L : TL} {ρ : Nat → Role} {o : Int} {b : Nat} (h : FrA w wx tb m L ρ o b) (hT : Tab w tb m L ρ) : ρ b = .inner o ∨ ρ b = .none := by
  rcases h.at' with ⟨f, hf, rfl⟩ | ⟨_, hlt⟩
  · exact .inl (hT.nm o f hf).2
  · exact .inr (hT.fresh (by omega))
theorem FrA.none {w wx : World} {tb : Nat} {m : TM} {L : TL} {ρ : Nat → Role} {o : Int} {b : Nat} (h : FrA w wx tb m L ρ o b) (hT : Tab w tb m L ρ) (hw : m.waits o = none) : FrB w wx tb m L ρ o b :=
  ⟨⟨m, hT.chg0 h.chg, rfl⟩, TOwn.same h.chg, h.mp.ext (fun x => by simp [setF, TM.touched, hw]), h.bx, h.role hT⟩
theorem FrA.some {w wx wy : World} {tb : Nat} {m : TM} {L : TL} {ρ : Nat → Role} {o : Int} {b : Nat} (h : FrA w wx tb m L ρ o b) (hT : Tab w tb m L ρ) {gr : ByteArray × Int} (hw : m.waits o = some gr) (hc : Chg (fun k => k = b) wx wy) (hM : MapAt wy b .string encS (fun x => if x = gr.1 then Option.some (.agg #[]) else setF (m.namesOf o) x)) : FrB w wy tb m L ρ o b := by
  have hT1 := hT.chg0 h.chg
  have hm : MapAt wy b .string encS (setF (m.touched o)) := hM.ext (fun x => by
    by_cases hx : x = gr.1 <;> simp [setF, TM.touched, hw, hx])
  have hne : w.heap.size ≠ b := by
    rcases h.at' with ⟨f, hf, rfl⟩ | ⟨_, hlt⟩
    · have := hT.lt (L.nm o) (by rw [(hT.nm o f hf).2]; simp); omega
    · omega
  have hbx := (hc.cell (cell_some h.bx).1 hne).trans h.bx
  rcases h.at' with ⟨f, hf, rfl⟩ | ⟨hno, hlt⟩
  · refine ⟨⟨_, hT1.addName (s := gr.1) hf hc (hM.ext (fun x => by simp [TM.namesOf, hf])), ?_⟩, (TOwn.same h.chg).trans ⟨hc.mono (fun k hk => by have : k = L.nm o := hk; rw [this, (hT.nm o f hf).2]; simp), fun _ h => .inl h⟩, hm, hbx, h.role hT⟩
    simp only [TM.delNames, TM.addName, TM.mk.injEq, true_and]
    funext i
    by_cases hi : i = o <;> simp [hi]
  · have hfr := hT.fresh (show w.heap.size ≤ b by omega)
    exact ⟨⟨m, hT1.chg hc (fun k hk => by have : k = b := hk; rw [this]; exact hfr), rfl⟩, ⟨h.chg.trans' hc (fun k hk => .inr (by have : k = b := hk; omega)) |>.mono (fun _ f => f.elim), fun _ h => .inl h⟩, hm, hbx, .inr hfr⟩
structure FrC (w wx : World) (tb : Nat) (mx m : TM) (L : TL) (ρ : Nat → Role) (o : Int) (b : Nat) : Prop where
  tab : Tab wx tb mx L ρ
  own : TOwn w ρ wx ρ
  mp : MapAt wx b .string encS (setF (m.touched o))
  bx : wx.cell? ⟨w.heap.size, 0, none⟩ = some (.int .u64 o)
  rb : ρ b = .inner o ∨ ρ b = .none
theorem FrC.go {w wx wy : World} {tb : Nat} {mx my m : TM} {L : TL} {ρ : Nat → Role} {o : Int} {b : Nat} (h : FrC w wx tb mx m L ρ o b) (hT0 : Tab w tb m L ρ) (hT : Tab wy tb my L ρ) {j : Nat} (hj : ρ j = .mn ∨ ρ j = .mw) (hc : Chg (fun k => k = j) wx wy) : FrC w wy tb my m L ρ o b := by
  have hjn : ρ j ≠ .none := by rcases hj with h | h <;> rw [h] <;> simp
  have hbj : b ≠ j := fun e => by rcases h.rb with h | h <;> rcases hj with hj | hj <;> rw [e, hj] at h <;> simp at h
  have hwj : w.heap.size ≠ j := fun e => by have := hT0.lt j hjn; omega
  exact ⟨hT, h.own.trans ⟨hc.mono (fun k hk => by have : k = j := hk; rw [this]; exact hjn), fun _ h => .inl h⟩, h.mp.chg hc hbj, (hc.cell (cell_some h.bx).1 hwj).trans h.bx, h.rb⟩
theorem FrB.go {w wx wy : World} {tb : Nat} {my m : TM} {L : TL} {ρ : Nat → Role} {o : Int} {b : Nat} (h : FrB w wx tb m L ρ o b) (hT0 : Tab w tb m L ρ) (hT : Tab wy tb my L ρ) {j : Nat} (hj : ρ j = .mn ∨ ρ j = .mw) (hc : Chg (fun k => k = j) wx wy) : FrC w wy tb my m L ρ o b := by
  obtain ⟨m', hT', -⟩ := h.tab
  exact FrC.go ⟨hT', h.own, h.mp, h.bx, h.rb⟩ hT0 hT hj hc
structure FrD (w wx : World) (tb : Nat) (mx : TM) (L : TL) (ρ : Nat → Role) (o : Int) : Prop where
  tab : Tab wx tb mx L ρ
  own : TOwn w ρ wx ρ
  bx : wx.cell? ⟨w.heap.size, 0, none⟩ = some (.int .u64 o)
/-- The names in a row: none, or a block of its own. -/
theorem names_of {w w' : World} {B : Nat} {v : Value} {ns : List ByteArray} (h : w'.ownsRow B 9 1 v ns.length (ns.map encS)) (hB : w.heap.size ≤ B) :
    ∃ (a : Option Addr) (c : Nat), v = .slice a ns.length c ∧ ns.length ≤ c ∧ ∀ i x, ns[i]? = some x → ∃ g, a = some ⟨g, 0, none⟩ ∧ w.heap.size ≤ g ∧ w'.cell? ⟨g, i, none⟩ = some (.string x) := by
  rcases h.2 with ⟨hv, h0⟩ | ⟨g, cap, cur, hv, hgb, hblk, h1, _, h3, h4⟩
  · exact ⟨none, 0, by rw [hv, h0], by omega, fun i x hx => by have := (List.getElem?_eq_some_iff.1 hx).1; omega⟩
  · refine ⟨some ⟨g, 0, none⟩, cap, hv, h1, fun i x hx => ⟨g, rfl, Nat.le_trans hB hgb, ?_⟩⟩
    rw [cell_of_row w' _ _ _ _ _ hblk]
    have hi := (List.getElem?_eq_some_iff.1 hx).1
    have : (cur.toList.take (ns.length * 1))[i]? = some (encS x) := by rw [h4, List.getElem?_map, hx]; rfl
    rw [List.getElem?_take, if_pos (by omega)] at this
    simpa [encS] using this
theorem FrD.start {w ws wx : World} {tb : Nat} {mx m : TM} {L : TL} {ρ : Nat → Role} {ns : List ByteArray} {na : Option Addr} {o : Int} (h : FrD w wx tb mx L ρ o) (hT : Tab w tb m L ρ)
    (hn : ∀ i y, ns[i]? = some y → ∃ g, na = some ⟨g, 0, none⟩ ∧ w.heap.size ≤ g ∧ ws.cell? ⟨g, i, none⟩ = some (.string y)) (hc : Chg (fun k => ρ k ≠ .none) ws wx) : FrE w wx tb (mx, []) L ρ ρ ns na (.slice none 0 0) :=
  ⟨h.tab, h.own, ⟨none, 0, rfl, World.ownsRow_nil _ _ _ 1, (fun b e => by cases e)⟩, fun i y hy => by
    obtain ⟨g, ha, hg, hcell⟩ := hn i y hy
    have hf := hT.fresh hg
    exact ⟨g, ha, hg, hf, (hc.cell (cell_some hcell).1 (fun hr => hr hf)).trans hcell⟩⟩
theorem qlen_out {o : Int} {m m' : TM} {x : ByteArray} (h : m'.pl x = (m.pl x).map (·.out o)) : qlen m' x ≤ qlen m x := by
  unfold qlen
  rw [h]
  cases m.pl x with
  | none => simp
  | some p => simp only [Option.map_some, PlM.out, keepO]; exact List.length_filter_le _ _
theorem sum_le {α : Type} (f g : α → Nat) : ∀ l : List α, (∀ x ∈ l, f x ≤ g x) → (l.map f).sum ≤ (l.map g).sum
  | [], _ => by simp
  | x :: r, h => by
    have h1 := h x (by simp)
    have h2 := sum_le f g r (fun y hy => h y (by simp [hy]))
    simp only [List.map_cons, List.sum_cons]; omega
theorem row_src {w : World} {base : Nat} {e : TypeId} {a : Option Addr} {k c n : Nat} {xs : List Value} (h : w.ownsRow base e 1 (.slice a k c) n xs) : (a = none → k = 0 ∧ c = 0) ∧ ∀ ad, a = some ad → ∀ j u, xs[j]? = some u → w.cell? (ad.add j) = some u := by
  rcases h.2 with ⟨hv, _⟩ | ⟨g, cap, cur, hv, _, hg, _⟩
  · simp only [Value.slice.injEq] at hv
    exact ⟨fun _ => hv.2, fun ad e => by rw [hv.1] at e; cases e⟩
  · simp only [Value.slice.injEq] at hv
    refine ⟨(fun e => by rw [hv.1] at e; cases e), fun ad e j u hu => ?_⟩
    rw [hv.1] at e
    cases e
    exact h.cells (g := g) (by rw [hv.1]; rfl) j u hu
/-- Free's answer. -/
def FreeR (w : World) (tb : Nat) (m : TM) (ρ : Nat → Role) (o : Int) (e : Ending) (w' : World) : Prop :=
  ∃ (ns : List ByteArray) (a : Option Addr) (c : Nat) (L' : TL) (ρ' : Nat → Role), ns.Nodup ∧ (∀ x, x ∈ ns ↔ m.touched o x = true) ∧ (ns.map (·.data.toList)).Pairwise (· ≤ ·) ∧
    e = .returned (.slice a (freeM m o ns).2.length c) ∧ w'.ownsRow 0 29 1 (.slice a (freeM m o ns).2.length c) (freeM m o ns).2.length ((freeM m o ns).2.map (Value.int .u64)) ∧ (∀ b, a = some b → w.heap.size ≤ b.block ∧ ρ' b.block = .none) ∧
    Tab w' tb (freeM m o ns).1 L' ρ' ∧ TOwn w ρ w' ρ'

set_option maxHeartbeats 2000000 in
set_option maxRecDepth 100000 in
theorem free_calls {w : World} {tb : Nat} {m : TM} {L : TL} {ρ : Nat → Role} (h : Tab w tb m L ρ) (o : Int) (l : List ByteArray) (hl : ∀ x, m.touched o x = true → x ∈ l ∧ x.size ≤ maxLen) (hN : l.length ≤ 5000000000000) (hpl : ∀ x, m.touched o x = true → ∃ p, m.pl x = some p) (hsum : ∀ ns : List ByteArray, ns.Nodup → (ns.map (qlen m)).sum ≤ 5000000000000) :
    Calls Try.prog 19 #[.pointer (some ⟨tb, 0, none⟩), .int .u64 o] w (FreeR w tb m ρ o) := by
  have hca : Chg NoB w (w.alloc (.cells #[.int .u64 o] 29)).drew := (Chg.alloc _ _ _).trans (Chg.drew _ _)
  have htb := heap_lt h.blk
  have d2 : w.cell? ⟨tb, 2, none⟩ = some (.map (some L.tn)) := by rw [cell_of_row w _ _ _ _ _ h.blk]; rfl
  have HS1 : Hid ((fun w' : World => w'.cell? ⟨tb, 2, none⟩ = some (.map (some L.tn)) ∧ w'.cell? ⟨w.heap.size, 0, none⟩ = some (.int .u64 o)) (w.alloc (.cells #[.int .u64 o] 29)).drew) := hide ⟨(hca.cell htb (fun f => f)).trans d2, by go_simp⟩
  have HN := hide (h.mn.chg hca (fun f => f))
  have HCA := hide hca
  have HH := hide h
  have hmm := @run_makeMap Try.prog
  have heq := fun (u : World) (x : Option Nat) => run_eql_map_nil' (P := Try.prog) u 80 9 86 x Try.underlying80
  have HLN := hide (And.intro hl hN); have HSUM := hide hsum
  have HPLS : Hid (∀ x, m.touched o x = true → ∃ p, m.pl x = some p ∧ p.queue.length ≤ 5000000000000) := hide (fun x hx => by
    obtain ⟨p, hp⟩ := hpl x hx
    have := hsum [x] (by simp)
    simp only [List.map_cons, List.map_nil, List.sum_cons, List.sum_nil, qlen, hp] at this
    exact ⟨p, hp, by omega⟩)
  clear hca htb d2 h hl hN hpl hsum
  go_enter Try.func19, Try.ntmps19
  go_wp2_with fail
  refine AnyM.region (S := fun w' : World => w'.cell? ⟨tb, 2, none⟩ = some (.map (some L.tn)) ∧ w'.cell? ⟨w.heap.size, 0, none⟩ = some (.int .u64 o)) (late := fun _ => false) (by kernel_rfl) ?_
  have hHeld : (fun w' : World => w'.cell? ⟨tb, 2, none⟩ = some (.map (some L.tn)) ∧ w'.cell? ⟨w.heap.size, 0, none⟩ = some (.int .u64 o)) _ := HS1.out
  refine AnyM.take (i := 0) (v := ?v0) rfl (by kernel_rfl) (by kernel_rfl) rfl (by kernel_rfl) (by kernel_rfl) (fun _ _ _ h => h) (Or.inl ⟨by rfl, ?y0⟩) hHeld ?r0
  case y0 => (intro w hSw; (try dsimp only at hSw); obtain ⟨q1, q2⟩ := hSw; go_simp; try with_reducible rfl)
  try simp only [Act.put, List.setIfInBounds_toArray, List.set_cons_zero, List.set_cons_succ, List.getElem_cons_zero, List.getElem_cons_succ, List.getElem_toArray]
  refine AnyM.take (i := 1) (v := ?v1) rfl (by kernel_rfl) (by kernel_rfl) rfl (by kernel_rfl) (by kernel_rfl) (fun _ _ _ h => h) (Or.inl ⟨by rfl, ?y1⟩) hHeld ?r1
  case y1 => (intro w hSw; (try dsimp only at hSw); obtain ⟨q1, q2⟩ := hSw; go_simp; try with_reducible rfl)
  try simp only [Act.put, List.setIfInBounds_toArray, List.set_cons_zero, List.set_cons_succ, List.getElem_cons_zero, List.getElem_cons_succ, List.getElem_toArray]
  refine AnyM.take (i := 2) (v := ?v2) rfl (by kernel_rfl) (by kernel_rfl) rfl (by kernel_rfl) (by kernel_rfl) (fun _ _ _ h => h) (Or.inl ⟨by rfl, ?y2⟩) hHeld ?r2
  case y2 => (intro w hSw; (try dsimp only at hSw); obtain ⟨q1, q2⟩ := hSw; go_simp; try with_reducible rfl)
  try simp only [Act.put, List.setIfInBounds_toArray, List.set_cons_zero, List.set_cons_succ, List.getElem_cons_zero, List.getElem_cons_succ, List.getElem_toArray]
  refine AnyM.take (i := 3) (v := ?v3) rfl (by kernel_rfl) (by kernel_rfl) rfl (by kernel_rfl) (by kernel_rfl) (fun _ _ _ h => h) (Or.inl ⟨by rfl, ?y3⟩) hHeld ?r3
  case y3 => (intro w hSw; (try dsimp only at hSw); obtain ⟨q1, q2⟩ := hSw; go_simp; try with_reducible rfl)
  try simp only [Act.put, List.setIfInBounds_toArray, List.set_cons_zero, List.set_cons_succ, List.getElem_cons_zero, List.getElem_cons_succ, List.getElem_toArray]
  refine AnyM.take (i := 4) (v := ?v4) rfl (by kernel_rfl) (by kernel_rfl) rfl (by kernel_rfl) (by kernel_rfl) (fun _ _ _ h => h) (Or.inl ⟨by rfl, ?y4⟩) hHeld ?r4
  case y4 => (intro w hSw; (try dsimp only at hSw); obtain ⟨q1, q2⟩ := hSw; go_simp; try with_reducible rfl)
  try simp only [Act.put, List.setIfInBounds_toArray, List.set_cons_zero, List.set_cons_succ, List.getElem_cons_zero, List.getElem_cons_succ, List.getElem_toArray]
  refine AnyM.step (i := 5) (by kernel_rfl) rfl rfl (fun K hK => ?_)
  refine step_look1 rfl (.tmp 20) (.tmp 21) 64 rfl 29 80 (.map none) Try.underlying64 Try.underlying29 encU_key zeroMap L.tn rfl HN.out o rfl _ rfl ?_
  clear hHeld
  refine hK.out _ _ (by first | exact HS1.out) (fun hHeld => ?_)
  clear hK K
  try simp only [Act.put, List.setIfInBounds_toArray, List.set_cons_zero, List.set_cons_succ, List.getElem_cons_zero, List.getElem_cons_succ, List.getElem_toArray]
  refine AnyM.take (i := 6) (v := ?v6) rfl (by kernel_rfl) (by kernel_rfl) rfl (by kernel_rfl) (by kernel_rfl) (fun _ _ _ h => h) (Or.inl ⟨by rfl, ?y6⟩) hHeld ?r6
  case y6 => (intro w hSw; (try dsimp only at hSw); obtain ⟨q1, q2⟩ := hSw; go_simp; try with_reducible rfl)
  try simp only [Act.put, List.setIfInBounds_toArray, List.set_cons_zero, List.set_cons_succ, List.getElem_cons_zero, List.getElem_cons_succ, List.getElem_toArray]
  refine AnyM.done (by kernel_rfl) ?_ _
  have hv : ∃ ob : Option Nat, (namesF m L o).getD (.map none) = .map ob ∧ (ob = none → m.names o = none) ∧ (∀ b, ob = some b → ∃ f, m.names o = some f ∧ b = L.nm o) := by
    cases hf : m.names o with
    | none => exact ⟨none, by simp [namesF, hf], (fun _ => rfl), (fun b hb => by cases hb)⟩
    | some f => exact ⟨some (L.nm o), by simp [namesF, hf], (fun h => by cases h), (fun b hb => ⟨f, rfl, by cases hb; rfl⟩)⟩
  obtain ⟨ob, hob, hn1, hn2⟩ := hv
  rw [hob]
  have hbx : (World.drew (w.alloc (.cells #[.int .u64 o] 29))).cell? ⟨w.heap.size, 0, none⟩ = some (.int .u64 o) := HS1.out.2
  have hszw : w.heap.size < (World.heap (World.drew (w.alloc (.cells #[.int .u64 o] 29)))).size := by show w.heap.size < (World.heap (w.alloc (.cells #[.int .u64 o] 29))).size; simp
  have HC1 := hide HCA.out
  clear hob HN HS1 HCA
  generalize World.drew (w.alloc (.cells #[.int .u64 o] 29)) = w1 at HC1 hbx hszw ⊢
  have HBX := hide hbx; have HSZ := hide hszw; have HN1 := hide hn1; have HN2 := hide hn2
  clear hbx hszw hn1 hn2
  go_upto_if 24 with fail
  go_cut [5] (fun s5 wx => ∃ b, s5 = .map (some b) ∧ FrA w wx tb m L ρ o b)
  case first =>
    cases ob with
    | none =>
      have hno := HN1.out rfl
      have hst : FrA w (w1.alloc (.map #[] 0)) tb m L ρ o w1.heap.size := ⟨HC1.out.trans (Chg.alloc _ _ _), (MapAt.made w1 .string encS).ext (fun x => by simp [setF, TM.namesOf, hno]), ((Chg.alloc NoB w1 _).cell HSZ.out (fun f => f)).trans HBX.out, .inr ⟨hno, HSZ.out⟩⟩
      have HST := hide hst; clear hno hst
      go_wp2_with fail
      go_meet
      exact ⟨w1.heap.size, rfl, HST.out⟩
    | some b =>
      obtain ⟨f, hf, rfl⟩ := HN2.out b rfl
      have hst : FrA w w1 tb m L ρ o (L.nm o) := ⟨HC1.out, (((HH.out.nm o f hf).1).chg HC1.out (fun f => f)).ext (fun x => by simp [setF, TM.namesOf, hf]), HBX.out, .inl ⟨f, hf, rfl⟩⟩
      have HST := hide hst; clear hf hst
      go_wp2_with fail
      go_meet
      exact ⟨L.nm o, rfl, HST.out⟩
  case rest =>
    obtain ⟨b, rfl, hA⟩ := hcut
    have HA := hide hA; clear hA
    have hTc := HH.out.chg0 HA.out.chg
    have c1 : wc.cell? ⟨tb, 1, none⟩ = some (.map (some L.tw)) := by rw [cell_of_row wc _ _ _ _ _ hTc.blk]; rfl
    have hbc : wc.cell? ⟨w.heap.size, 0, none⟩ = some (.int .u64 o) := HA.out.bx
    have HKEEP : Hid (∀ w', Chg NoB wc w' → (fun w' : World => w'.cell? ⟨tb, 1, none⟩ = some (.map (some L.tw)) ∧ w'.cell? ⟨w.heap.size, 0, none⟩ = some (.int .u64 o) ∧ MapAt w' L.tw (.int .u64) encU (waitsF m)) w') := hide (fun w' hc => ⟨(hc.cell (cell_some c1).1 (fun f => f)).trans c1, (hc.cell (cell_some hbc).1 (fun f => f)).trans hbc, hTc.mw.chg hc (fun f => f)⟩)
    have HS4 := hide (HKEEP.out _ (Chg.drew _ _))
    clear hTc hbc c1
    go_upto_region 4 with fail
    go_cut [6, 7] (fun s6 s7 wx => ∃ g, s6 = .pointer (some ⟨g, 0, none⟩) ∧ s7 = .bool (m.waits o).isSome ∧ (∀ gr, m.waits o = some gr → wx.cell? ⟨g, 0, none⟩ = some (.string gr.1)) ∧ FrA w wx tb m L ρ o b)
    case first =>
      cases hw : m.waits o with
      | none =>
        have hl : waitsF m o = none := by simp [waitsF, hw]
        have HL := hide hl; have HW := hide hw; clear hl hw
        refine AnyM.region (S := fun w' : World => w'.cell? ⟨tb, 1, none⟩ = some (.map (some L.tw)) ∧ w'.cell? ⟨w.heap.size, 0, none⟩ = some (.int .u64 o) ∧ MapAt w' L.tw (.int .u64) encU (waitsF m)) (late := fun _ => false) (by kernel_rfl) ?_
        have hHeld : (fun w' : World => w'.cell? ⟨tb, 1, none⟩ = some (.map (some L.tw)) ∧ w'.cell? ⟨w.heap.size, 0, none⟩ = some (.int .u64 o) ∧ MapAt w' L.tw (.int .u64) encU (waitsF m)) _ := HS4.out
        refine AnyM.take (i := 0) (v := ?va0) rfl (by kernel_rfl) (by kernel_rfl) rfl (by kernel_rfl) (by kernel_rfl) (fun _ _ _ h => h) (Or.inl ⟨by rfl, ?ya0⟩) hHeld ?ra0
        case ya0 => (intro w hSw; (try dsimp only at hSw); obtain ⟨q1, q2, q3⟩ := hSw; go_simp; try with_reducible rfl)
        try simp only [Act.put, List.setIfInBounds_toArray, List.set_cons_zero, List.set_cons_succ, List.getElem_cons_zero, List.getElem_cons_succ, List.getElem_toArray]
        refine AnyM.take (i := 1) (v := ?va1) rfl (by kernel_rfl) (by kernel_rfl) rfl (by kernel_rfl) (by kernel_rfl) (fun _ _ _ h => h) (Or.inl ⟨by rfl, ?ya1⟩) hHeld ?ra1
        case ya1 => (intro w hSw; (try dsimp only at hSw); obtain ⟨q1, q2, q3⟩ := hSw; go_simp; try with_reducible rfl)
        try simp only [Act.put, List.setIfInBounds_toArray, List.set_cons_zero, List.set_cons_succ, List.getElem_cons_zero, List.getElem_cons_succ, List.getElem_toArray]
        refine AnyM.take (i := 2) (v := ?va2) rfl (by kernel_rfl) (by kernel_rfl) rfl (by kernel_rfl) (by kernel_rfl) (fun _ _ _ h => h) (Or.inl ⟨by rfl, ?ya2⟩) hHeld ?ra2
        case ya2 => (intro w hSw; (try dsimp only at hSw); obtain ⟨q1, q2, q3⟩ := hSw; go_simp; try with_reducible rfl)
        try simp only [Act.put, List.setIfInBounds_toArray, List.set_cons_zero, List.set_cons_succ, List.getElem_cons_zero, List.getElem_cons_succ, List.getElem_toArray]
        refine AnyM.take (i := 3) (v := ?va3) rfl (by kernel_rfl) (by kernel_rfl) rfl (by kernel_rfl) (by kernel_rfl) (fun _ _ _ h => h) (Or.inl ⟨by rfl, ?ya3⟩) hHeld ?ra3
        case ya3 => (intro w hSw; (try dsimp only at hSw); obtain ⟨q1, q2, q3⟩ := hSw; go_simp; try with_reducible rfl)
        try simp only [Act.put, List.setIfInBounds_toArray, List.set_cons_zero, List.set_cons_succ, List.getElem_cons_zero, List.getElem_cons_succ, List.getElem_toArray]
        refine AnyM.take (i := 4) (v := ?va4) rfl (by kernel_rfl) (by kernel_rfl) rfl (by kernel_rfl) (by kernel_rfl) (fun _ _ _ h => h) (Or.inl ⟨by rfl, ?ya4⟩) hHeld ?ra4
        case ya4 => (intro w hSw; (try dsimp only at hSw); obtain ⟨q1, q2, q3⟩ := hSw; go_simp; try with_reducible rfl)
        try simp only [Act.put, List.setIfInBounds_toArray, List.set_cons_zero, List.set_cons_succ, List.getElem_cons_zero, List.getElem_cons_succ, List.getElem_toArray]
        refine AnyM.take (i := 5) (v := ?va5) rfl (by kernel_rfl) (by kernel_rfl) rfl (by kernel_rfl) (by kernel_rfl) (fun _ _ _ h => h) (Or.inl ⟨by rfl, ?ya5⟩) hHeld ?ra5
        case ya5 => (intro w hSw; (try dsimp only at hSw); obtain ⟨q1, q2, q3⟩ := hSw; have hq := run_look (P := Try.prog) q3 Try.underlying63 Try.underlying29 encU_key zeroGr o true; rw [HL.out] at hq; simp only [encU, if_true, Option.getD_none, Option.getD_some, Option.isSome_none, Option.isSome_some] at hq; go_simp; try with_reducible rfl)
        try simp only [Act.put, List.setIfInBounds_toArray, List.set_cons_zero, List.set_cons_succ, List.getElem_cons_zero, List.getElem_cons_succ, List.getElem_toArray]
        refine AnyM.take (i := 6) (v := ?va6) rfl (by kernel_rfl) (by kernel_rfl) rfl (by kernel_rfl) (by kernel_rfl) (fun _ _ _ h => h) (Or.inl ⟨by rfl, ?ya6⟩) hHeld ?ra6
        case ya6 => (intro w hSw; (try dsimp only at hSw); obtain ⟨q1, q2, q3⟩ := hSw; go_simp; try with_reducible rfl)
        try simp only [Act.put, List.setIfInBounds_toArray, List.set_cons_zero, List.set_cons_succ, List.getElem_cons_zero, List.getElem_cons_succ, List.getElem_toArray]
        refine AnyM.take (i := 7) (v := ?va7) rfl (by kernel_rfl) (by kernel_rfl) rfl (by kernel_rfl) (by kernel_rfl) (fun _ _ _ h => h) (Or.inl ⟨by rfl, ?ya7⟩) hHeld ?ra7
        case ya7 => (intro w hSw; (try dsimp only at hSw); obtain ⟨q1, q2, q3⟩ := hSw; go_simp; try with_reducible rfl)
        try simp only [Act.put, List.setIfInBounds_toArray, List.set_cons_zero, List.set_cons_succ, List.getElem_cons_zero, List.getElem_cons_succ, List.getElem_toArray]
        refine AnyM.take (i := 8) (v := ?va8) rfl (by kernel_rfl) (by kernel_rfl) rfl (by kernel_rfl) (by kernel_rfl) (fun _ _ _ h => h) (Or.inl ⟨by rfl, ?ya8⟩) hHeld ?ra8
        case ya8 => (intro w hSw; (try dsimp only at hSw); obtain ⟨q1, q2, q3⟩ := hSw; go_simp; try with_reducible rfl)
        try simp only [Act.put, List.setIfInBounds_toArray, List.set_cons_zero, List.set_cons_succ, List.getElem_cons_zero, List.getElem_cons_succ, List.getElem_toArray]
        refine AnyM.step (i := 9) (by kernel_rfl) rfl rfl (fun K hK => ?_)
        go_simp
        clear hHeld
        refine hK.out _ _ (by first | exact HS4.out | exact HKEEP.out _ (Chg.alloc _ _ _) | exact HKEEP.out _ ((Chg.alloc _ _ _).trans (Chg.drew _ _)) | exact hHeld) (fun hHeld => ?_)
        clear hK K
        try simp only [Act.put, List.setIfInBounds_toArray, List.set_cons_zero, List.set_cons_succ, List.getElem_cons_zero, List.getElem_cons_succ, List.getElem_toArray]
        refine AnyM.step (i := 10) (by kernel_rfl) rfl rfl (fun K hK => ?_)
        go_simp
        clear hHeld
        refine hK.out _ _ (by first | exact HS4.out | exact HKEEP.out _ (Chg.alloc _ _ _) | exact HKEEP.out _ ((Chg.alloc _ _ _).trans (Chg.drew _ _)) | exact hHeld) (fun hHeld => ?_)
        clear hK K
        try simp only [Act.put, List.setIfInBounds_toArray, List.set_cons_zero, List.set_cons_succ, List.getElem_cons_zero, List.getElem_cons_succ, List.getElem_toArray]
        refine AnyM.step (i := 11) (by kernel_rfl) rfl rfl (fun K hK => ?_)
        go_simp
        clear hHeld
        refine hK.out _ _ (by first | exact HS4.out | exact HKEEP.out _ (Chg.alloc _ _ _) | exact HKEEP.out _ ((Chg.alloc _ _ _).trans (Chg.drew _ _)) | exact hHeld) (fun hHeld => ?_)
        clear hK K
        try simp only [Act.put, List.setIfInBounds_toArray, List.set_cons_zero, List.set_cons_succ, List.getElem_cons_zero, List.getElem_cons_succ, List.getElem_toArray]
        refine AnyM.done (by kernel_rfl) ?_ _
        go_wp2_with fail
        go_meet
        exact ⟨wc.heap.size, rfl, by rw [HW.out]; rfl, (fun gr hg => by rw [HW.out] at hg; cases hg), HA.out.go ((Chg.alloc _ _ _).trans (Chg.drew _ _))⟩
      | some gr =>
        have hl : waitsF m o = some (.agg #[.string gr.1, .int .i64 gr.2]) := by simp [waitsF, hw]
        have HL := hide hl; have HW := hide hw; clear hl hw
        refine AnyM.region (S := fun w' : World => w'.cell? ⟨tb, 1, none⟩ = some (.map (some L.tw)) ∧ w'.cell? ⟨w.heap.size, 0, none⟩ = some (.int .u64 o) ∧ MapAt w' L.tw (.int .u64) encU (waitsF m)) (late := fun _ => false) (by kernel_rfl) ?_
        have hHeld : (fun w' : World => w'.cell? ⟨tb, 1, none⟩ = some (.map (some L.tw)) ∧ w'.cell? ⟨w.heap.size, 0, none⟩ = some (.int .u64 o) ∧ MapAt w' L.tw (.int .u64) encU (waitsF m)) _ := HS4.out
        refine AnyM.take (i := 0) (v := ?vb0) rfl (by kernel_rfl) (by kernel_rfl) rfl (by kernel_rfl) (by kernel_rfl) (fun _ _ _ h => h) (Or.inl ⟨by rfl, ?yb0⟩) hHeld ?rb0
        case yb0 => (intro w hSw; (try dsimp only at hSw); obtain ⟨q1, q2, q3⟩ := hSw; go_simp; try with_reducible rfl)
        try simp only [Act.put, List.setIfInBounds_toArray, List.set_cons_zero, List.set_cons_succ, List.getElem_cons_zero, List.getElem_cons_succ, List.getElem_toArray]
        refine AnyM.take (i := 1) (v := ?vb1) rfl (by kernel_rfl) (by kernel_rfl) rfl (by kernel_rfl) (by kernel_rfl) (fun _ _ _ h => h) (Or.inl ⟨by rfl, ?yb1⟩) hHeld ?rb1
        case yb1 => (intro w hSw; (try dsimp only at hSw); obtain ⟨q1, q2, q3⟩ := hSw; go_simp; try with_reducible rfl)
        try simp only [Act.put, List.setIfInBounds_toArray, List.set_cons_zero, List.set_cons_succ, List.getElem_cons_zero, List.getElem_cons_succ, List.getElem_toArray]
        refine AnyM.take (i := 2) (v := ?vb2) rfl (by kernel_rfl) (by kernel_rfl) rfl (by kernel_rfl) (by kernel_rfl) (fun _ _ _ h => h) (Or.inl ⟨by rfl, ?yb2⟩) hHeld ?rb2
        case yb2 => (intro w hSw; (try dsimp only at hSw); obtain ⟨q1, q2, q3⟩ := hSw; go_simp; try with_reducible rfl)
        try simp only [Act.put, List.setIfInBounds_toArray, List.set_cons_zero, List.set_cons_succ, List.getElem_cons_zero, List.getElem_cons_succ, List.getElem_toArray]
        refine AnyM.take (i := 3) (v := ?vb3) rfl (by kernel_rfl) (by kernel_rfl) rfl (by kernel_rfl) (by kernel_rfl) (fun _ _ _ h => h) (Or.inl ⟨by rfl, ?yb3⟩) hHeld ?rb3
        case yb3 => (intro w hSw; (try dsimp only at hSw); obtain ⟨q1, q2, q3⟩ := hSw; go_simp; try with_reducible rfl)
        try simp only [Act.put, List.setIfInBounds_toArray, List.set_cons_zero, List.set_cons_succ, List.getElem_cons_zero, List.getElem_cons_succ, List.getElem_toArray]
        refine AnyM.take (i := 4) (v := ?vb4) rfl (by kernel_rfl) (by kernel_rfl) rfl (by kernel_rfl) (by kernel_rfl) (fun _ _ _ h => h) (Or.inl ⟨by rfl, ?yb4⟩) hHeld ?rb4
        case yb4 => (intro w hSw; (try dsimp only at hSw); obtain ⟨q1, q2, q3⟩ := hSw; go_simp; try with_reducible rfl)
        try simp only [Act.put, List.setIfInBounds_toArray, List.set_cons_zero, List.set_cons_succ, List.getElem_cons_zero, List.getElem_cons_succ, List.getElem_toArray]
        refine AnyM.take (i := 5) (v := ?vb5) rfl (by kernel_rfl) (by kernel_rfl) rfl (by kernel_rfl) (by kernel_rfl) (fun _ _ _ h => h) (Or.inl ⟨by rfl, ?yb5⟩) hHeld ?rb5
        case yb5 => (intro w hSw; (try dsimp only at hSw); obtain ⟨q1, q2, q3⟩ := hSw; have hq := run_look (P := Try.prog) q3 Try.underlying63 Try.underlying29 encU_key zeroGr o true; rw [HL.out] at hq; simp only [encU, if_true, Option.getD_none, Option.getD_some, Option.isSome_none, Option.isSome_some] at hq; go_simp; try with_reducible rfl)
        try simp only [Act.put, List.setIfInBounds_toArray, List.set_cons_zero, List.set_cons_succ, List.getElem_cons_zero, List.getElem_cons_succ, List.getElem_toArray]
        refine AnyM.take (i := 6) (v := ?vb6) rfl (by kernel_rfl) (by kernel_rfl) rfl (by kernel_rfl) (by kernel_rfl) (fun _ _ _ h => h) (Or.inl ⟨by rfl, ?yb6⟩) hHeld ?rb6
        case yb6 => (intro w hSw; (try dsimp only at hSw); obtain ⟨q1, q2, q3⟩ := hSw; go_simp; try with_reducible rfl)
        try simp only [Act.put, List.setIfInBounds_toArray, List.set_cons_zero, List.set_cons_succ, List.getElem_cons_zero, List.getElem_cons_succ, List.getElem_toArray]
        refine AnyM.take (i := 7) (v := ?vb7) rfl (by kernel_rfl) (by kernel_rfl) rfl (by kernel_rfl) (by kernel_rfl) (fun _ _ _ h => h) (Or.inl ⟨by rfl, ?yb7⟩) hHeld ?rb7
        case yb7 => (intro w hSw; (try dsimp only at hSw); obtain ⟨q1, q2, q3⟩ := hSw; go_simp; try with_reducible rfl)
        try simp only [Act.put, List.setIfInBounds_toArray, List.set_cons_zero, List.set_cons_succ, List.getElem_cons_zero, List.getElem_cons_succ, List.getElem_toArray]
        refine AnyM.take (i := 8) (v := ?vb8) rfl (by kernel_rfl) (by kernel_rfl) rfl (by kernel_rfl) (by kernel_rfl) (fun _ _ _ h => h) (Or.inl ⟨by rfl, ?yb8⟩) hHeld ?rb8
        case yb8 => (intro w hSw; (try dsimp only at hSw); obtain ⟨q1, q2, q3⟩ := hSw; go_simp; try with_reducible rfl)
        try simp only [Act.put, List.setIfInBounds_toArray, List.set_cons_zero, List.set_cons_succ, List.getElem_cons_zero, List.getElem_cons_succ, List.getElem_toArray]
        refine AnyM.step (i := 9) (by kernel_rfl) rfl rfl (fun K hK => ?_)
        go_simp
        clear hHeld
        refine hK.out _ _ (by first | exact HS4.out | exact HKEEP.out _ (Chg.alloc _ _ _) | exact HKEEP.out _ ((Chg.alloc _ _ _).trans (Chg.drew _ _)) | exact hHeld) (fun hHeld => ?_)
        clear hK K
        try simp only [Act.put, List.setIfInBounds_toArray, List.set_cons_zero, List.set_cons_succ, List.getElem_cons_zero, List.getElem_cons_succ, List.getElem_toArray]
        refine AnyM.step (i := 10) (by kernel_rfl) rfl rfl (fun K hK => ?_)
        go_simp
        clear hHeld
        refine hK.out _ _ (by first | exact HS4.out | exact HKEEP.out _ (Chg.alloc _ _ _) | exact HKEEP.out _ ((Chg.alloc _ _ _).trans (Chg.drew _ _)) | exact hHeld) (fun hHeld => ?_)
        clear hK K
        try simp only [Act.put, List.setIfInBounds_toArray, List.set_cons_zero, List.set_cons_succ, List.getElem_cons_zero, List.getElem_cons_succ, List.getElem_toArray]
        refine AnyM.step (i := 11) (by kernel_rfl) rfl rfl (fun K hK => ?_)
        go_simp
        clear hHeld
        refine hK.out _ _ (by first | exact HS4.out | exact HKEEP.out _ (Chg.alloc _ _ _) | exact HKEEP.out _ ((Chg.alloc _ _ _).trans (Chg.drew _ _)) | exact hHeld) (fun hHeld => ?_)
        clear hK K
        try simp only [Act.put, List.setIfInBounds_toArray, List.set_cons_zero, List.set_cons_succ, List.getElem_cons_zero, List.getElem_cons_succ, List.getElem_toArray]
        refine AnyM.done (by kernel_rfl) ?_ _
        go_wp2_with fail
        go_meet
        exact ⟨wc.heap.size, rfl, by rw [HW.out]; rfl, (fun gr' hg => by rw [HW.out] at hg; cases hg; go_simp), HA.out.go ((Chg.alloc _ _ _).trans (Chg.drew _ _))⟩
    case rest =>
      obtain ⟨g, rfl, rfl, hgr, hA⟩ := hcut
      have HB := hide hA; have HGR := hide hgr; clear hA hgr HA HKEEP HS4
      go_upto_if 35 with fail
      go_cut [7] (fun s7 wx => s7 = .bool (m.waits o).isSome ∧ FrB w wx tb m L ρ o b)
      case first =>
        cases hw : m.waits o with
        | none =>
          have hb : FrB w wc tb m L ρ o b := HB.out.none HH.out hw
          have HFB := hide hb; have HW := hide hw; clear hb hw
          go_wp2_with fail
          go_meet
          exact ⟨by rw [HW.out], HFB.out⟩
        | some gr =>
          have hg := HGR.out gr hw
          have HMP := hide HB.out.mp; have HW := hide hw; clear hw
          go_wp2_with (at_mapUpdate; refine wpList_put rfl (.tmp 36) (.tmp 38) (.tmp 39) 80 rfl 9 86 Try.underlying80 Try.underlying9 encS_inj encS_key b rfl HMP.out gr.1 rfl (.agg #[]) rfl (Hid.out ?_))
          refine hide (fun wy hMy hcy => ?_)
          have HFB := hide (HB.out.some HH.out HW.out hcy hMy)
          clear hMy hcy hg
          go_wp2_with fail
          go_meet
          exact ⟨by rw [HW.out]; rfl, HFB.out⟩
      case rest =>
        obtain ⟨rfl, hB⟩ := hcut
        have HFB := hide hB; clear hB
        obtain ⟨m', hT', hm'⟩ := HFB.out.tab
        have hcd := Chg.drew NoB wc
        have d2 : wc.cell? ⟨tb, 2, none⟩ = some (.map (some L.tn)) := by rw [cell_of_row wc _ _ _ _ _ hT'.blk]; rfl
        have HS7 : Hid ((fun w' : World => w'.cell? ⟨tb, 2, none⟩ = some (.map (some L.tn)) ∧ w'.cell? ⟨w.heap.size, 0, none⟩ = some (.int .u64 o)) wc.drew) := hide ⟨(hcd.cell (cell_some d2).1 (fun f => f)).trans d2, (hcd.cell (cell_some HFB.out.bx).1 (fun f => f)).trans HFB.out.bx⟩
        have HM7 := hide (hT'.mn.chg hcd (fun f => f))
        have ht2 : tb ≠ L.tn := fun e => by have := HH.out.rt; rw [e, HH.out.rn] at this; cases this
        have hb2 : w.heap.size ≠ L.tn := fun e => by have := HH.out.lt L.tn (by rw [HH.out.rn]; simp); omega
        have HKD : Hid (∀ w', Chg (fun k => k = L.tn) wc.drew w' → (fun w' : World => w'.cell? ⟨tb, 2, none⟩ = some (.map (some L.tn)) ∧ w'.cell? ⟨w.heap.size, 0, none⟩ = some (.int .u64 o)) w') := hide (fun w' hc => ⟨(hc.cell (cell_some HS7.out.1).1 ht2).trans HS7.out.1, (hc.cell (cell_some HS7.out.2).1 hb2).trans HS7.out.2⟩)
        clear ht2 hb2
        have HTP := hide hT'; have HMP := hide hm'
        clear hT' hm' hcd d2 HB HGR
        go_wp2_with fail
        refine AnyM.region (S := fun w' : World => w'.cell? ⟨tb, 2, none⟩ = some (.map (some L.tn)) ∧ w'.cell? ⟨w.heap.size, 0, none⟩ = some (.int .u64 o)) (late := fun _ => false) (by kernel_rfl) ?_
        have hHeld : (fun w' : World => w'.cell? ⟨tb, 2, none⟩ = some (.map (some L.tn)) ∧ w'.cell? ⟨w.heap.size, 0, none⟩ = some (.int .u64 o)) _ := HS7.out
        refine AnyM.take (i := 0) (v := ?vc0) rfl (by kernel_rfl) (by kernel_rfl) rfl (by kernel_rfl) (by kernel_rfl) (fun _ _ _ h => h) (Or.inl ⟨by rfl, ?yc0⟩) hHeld ?rc0
        case yc0 => (intro w hSw; (try dsimp only at hSw); obtain ⟨q1, q2⟩ := hSw; go_simp; try with_reducible rfl)
        try simp only [Act.put, List.setIfInBounds_toArray, List.set_cons_zero, List.set_cons_succ, List.getElem_cons_zero, List.getElem_cons_succ, List.getElem_toArray]
        refine AnyM.take (i := 1) (v := ?vc1) rfl (by kernel_rfl) (by kernel_rfl) rfl (by kernel_rfl) (by kernel_rfl) (fun _ _ _ h => h) (Or.inl ⟨by rfl, ?yc1⟩) hHeld ?rc1
        case yc1 => (intro w hSw; (try dsimp only at hSw); obtain ⟨q1, q2⟩ := hSw; go_simp; try with_reducible rfl)
        try simp only [Act.put, List.setIfInBounds_toArray, List.set_cons_zero, List.set_cons_succ, List.getElem_cons_zero, List.getElem_cons_succ, List.getElem_toArray]
        refine AnyM.take (i := 2) (v := ?vc2) rfl (by kernel_rfl) (by kernel_rfl) rfl (by kernel_rfl) (by kernel_rfl) (fun _ _ _ h => h) (Or.inl ⟨by rfl, ?yc2⟩) hHeld ?rc2
        case yc2 => (intro w hSw; (try dsimp only at hSw); obtain ⟨q1, q2⟩ := hSw; go_simp; try with_reducible rfl)
        try simp only [Act.put, List.setIfInBounds_toArray, List.set_cons_zero, List.set_cons_succ, List.getElem_cons_zero, List.getElem_cons_succ, List.getElem_toArray]
        refine AnyM.take (i := 3) (v := ?vc3) rfl (by kernel_rfl) (by kernel_rfl) rfl (by kernel_rfl) (by kernel_rfl) (fun _ _ _ h => h) (Or.inl ⟨by rfl, ?yc3⟩) hHeld ?rc3
        case yc3 => (intro w hSw; (try dsimp only at hSw); obtain ⟨q1, q2⟩ := hSw; go_simp; try with_reducible rfl)
        try simp only [Act.put, List.setIfInBounds_toArray, List.set_cons_zero, List.set_cons_succ, List.getElem_cons_zero, List.getElem_cons_succ, List.getElem_toArray]
        refine AnyM.take (i := 4) (v := ?vc4) rfl (by kernel_rfl) (by kernel_rfl) rfl (by kernel_rfl) (by kernel_rfl) (fun _ _ _ h => h) (Or.inl ⟨by rfl, ?yc4⟩) hHeld ?rc4
        case yc4 => (intro w hSw; (try dsimp only at hSw); obtain ⟨q1, q2⟩ := hSw; go_simp; try with_reducible rfl)
        try simp only [Act.put, List.setIfInBounds_toArray, List.set_cons_zero, List.set_cons_succ, List.getElem_cons_zero, List.getElem_cons_succ, List.getElem_toArray]
        refine AnyM.step (i := 5) (by kernel_rfl) rfl rfl (fun K hK => ?_)
        refine step_del rfl (.tmp 43) (.tmp 44) 64 29 rfl 29 80 Try.underlying64 Try.underlying29 encU_inj encU_key L.tn rfl HM7.out o rfl (fun w8 hM8 hc8 => hK.out _ _ (HKD.out _ hc8) (fun _ => ?_))
        clear hK K
        refine AnyM.done (by kernel_rfl) ?_ _
        have hT8 := (HTP.out.chg0 (Chg.drew NoB wc)).delNames hc8 hM8
        rw [HMP.out] at hT8
        have hC8 : FrC w w8 tb (m.delNames o) m L ρ o b := HFB.out.go HH.out hT8 (.inl HH.out.rn) ((Chg.drew _ wc).trans hc8)
        have HC8 := hide hC8
        clear hT8 hC8 hM8 hc8 HFB HTP HMP HS7 HM7
        have hcd := Chg.drew NoB w8
        have d1 : w8.cell? ⟨tb, 1, none⟩ = some (.map (some L.tw)) := by rw [cell_of_row w8 _ _ _ _ _ HC8.out.tab.blk]; rfl
        have HS8 : Hid ((fun w' : World => w'.cell? ⟨tb, 1, none⟩ = some (.map (some L.tw)) ∧ w'.cell? ⟨w.heap.size, 0, none⟩ = some (.int .u64 o)) w8.drew) := hide ⟨(hcd.cell (cell_some d1).1 (fun f => f)).trans d1, (hcd.cell (cell_some HC8.out.bx).1 (fun f => f)).trans HC8.out.bx⟩
        have HM8 := hide (HC8.out.tab.mw.chg hcd (fun f => f))
        clear HKD
        have ht2 : tb ≠ L.tw := fun e => by have := HH.out.rt; rw [e, HH.out.rw] at this; cases this
        have hb2 : w.heap.size ≠ L.tw := fun e => by have := HH.out.lt L.tw (by rw [HH.out.rw]; simp); omega
        have HKD : Hid (∀ w', Chg (fun k => k = L.tw) w8.drew w' → (fun w' : World => w'.cell? ⟨tb, 1, none⟩ = some (.map (some L.tw)) ∧ w'.cell? ⟨w.heap.size, 0, none⟩ = some (.int .u64 o)) w') := hide (fun w' hc => ⟨(hc.cell (cell_some HS8.out.1).1 ht2).trans HS8.out.1, (hc.cell (cell_some HS8.out.2).1 hb2).trans HS8.out.2⟩)
        clear ht2 hb2
        clear hcd d1
        go_wp2_with fail
        refine AnyM.region (S := fun w' : World => w'.cell? ⟨tb, 1, none⟩ = some (.map (some L.tw)) ∧ w'.cell? ⟨w.heap.size, 0, none⟩ = some (.int .u64 o)) (late := fun _ => false) (by kernel_rfl) ?_
        have hHeld : (fun w' : World => w'.cell? ⟨tb, 1, none⟩ = some (.map (some L.tw)) ∧ w'.cell? ⟨w.heap.size, 0, none⟩ = some (.int .u64 o)) _ := HS8.out
        refine AnyM.take (i := 0) (v := ?vd0) rfl (by kernel_rfl) (by kernel_rfl) rfl (by kernel_rfl) (by kernel_rfl) (fun _ _ _ h => h) (Or.inl ⟨by rfl, ?yd0⟩) hHeld ?rd0
        case yd0 => (intro w hSw; (try dsimp only at hSw); obtain ⟨q1, q2⟩ := hSw; go_simp; try with_reducible rfl)
        try simp only [Act.put, List.setIfInBounds_toArray, List.set_cons_zero, List.set_cons_succ, List.getElem_cons_zero, List.getElem_cons_succ, List.getElem_toArray]
        refine AnyM.take (i := 1) (v := ?vd1) rfl (by kernel_rfl) (by kernel_rfl) rfl (by kernel_rfl) (by kernel_rfl) (fun _ _ _ h => h) (Or.inl ⟨by rfl, ?yd1⟩) hHeld ?rd1
        case yd1 => (intro w hSw; (try dsimp only at hSw); obtain ⟨q1, q2⟩ := hSw; go_simp; try with_reducible rfl)
        try simp only [Act.put, List.setIfInBounds_toArray, List.set_cons_zero, List.set_cons_succ, List.getElem_cons_zero, List.getElem_cons_succ, List.getElem_toArray]
        refine AnyM.take (i := 2) (v := ?vd2) rfl (by kernel_rfl) (by kernel_rfl) rfl (by kernel_rfl) (by kernel_rfl) (fun _ _ _ h => h) (Or.inl ⟨by rfl, ?yd2⟩) hHeld ?rd2
        case yd2 => (intro w hSw; (try dsimp only at hSw); obtain ⟨q1, q2⟩ := hSw; go_simp; try with_reducible rfl)
        try simp only [Act.put, List.setIfInBounds_toArray, List.set_cons_zero, List.set_cons_succ, List.getElem_cons_zero, List.getElem_cons_succ, List.getElem_toArray]
        refine AnyM.take (i := 3) (v := ?vd3) rfl (by kernel_rfl) (by kernel_rfl) rfl (by kernel_rfl) (by kernel_rfl) (fun _ _ _ h => h) (Or.inl ⟨by rfl, ?yd3⟩) hHeld ?rd3
        case yd3 => (intro w hSw; (try dsimp only at hSw); obtain ⟨q1, q2⟩ := hSw; go_simp; try with_reducible rfl)
        try simp only [Act.put, List.setIfInBounds_toArray, List.set_cons_zero, List.set_cons_succ, List.getElem_cons_zero, List.getElem_cons_succ, List.getElem_toArray]
        refine AnyM.take (i := 4) (v := ?vd4) rfl (by kernel_rfl) (by kernel_rfl) rfl (by kernel_rfl) (by kernel_rfl) (fun _ _ _ h => h) (Or.inl ⟨by rfl, ?yd4⟩) hHeld ?rd4
        case yd4 => (intro w hSw; (try dsimp only at hSw); obtain ⟨q1, q2⟩ := hSw; go_simp; try with_reducible rfl)
        try simp only [Act.put, List.setIfInBounds_toArray, List.set_cons_zero, List.set_cons_succ, List.getElem_cons_zero, List.getElem_cons_succ, List.getElem_toArray]
        refine AnyM.step (i := 5) (by kernel_rfl) rfl rfl (fun K hK => ?_)
        refine step_del rfl (.tmp 48) (.tmp 49) 63 29 rfl 29 33 Try.underlying63 Try.underlying29 encU_inj encU_key L.tw rfl HM8.out o rfl (fun w9 hM9 hc9 => hK.out _ _ (HKD.out _ hc9) (fun _ => ?_))
        clear hK K
        refine AnyM.done (by kernel_rfl) ?_ _
        have hT9 := (HC8.out.tab.chg0 (Chg.drew NoB w8)).delWait hc9 hM9
        have hC9 : FrC w w9 tb ((m.delNames o).delWait o) m L ρ o b := HC8.out.go HH.out hT9 (.inr HH.out.rw) ((Chg.drew _ w8).trans hc9)
        have HC9 := hide hC9
        clear hT9 hC9 hM9 hc9 HC8 HS8 HM8
        clear HKD
        go_wp2_with fail
        refine (keys_calls _ _).mono ?_
        rintro e wk ⟨rfl, hwk⟩
        have hck : Chg NoB w9 wk := by rw [hwk]; exact Chg.alloc _ _ _
        have hbk : wk.cell? ⟨w9.heap.size, 0, none⟩ = some (.map (some b)) := by rw [hwk, cell_of_row _ _ _ _ _ _ (heap_alloc_new w9 _)]; rfl
        have HSC := hide (sorted_calls hbk (HC9.out.mp.chg hck (fun f => f)) l HLN.out.1 HLN.out.2)
        clear hwk hbk
        have HCK := hide hck; clear hck
        go_wp2_with fail
        refine HSC.out.mono ?_
        rintro e ws ⟨v, ns, rfl, hnd, hmem, hsrt, hrow, hbel⟩
        have hcs : Chg NoB w9 ws := HCK.out.trans (Chg.of_below hbel (fun k hk _ => hk))
        have hD0 : FrD w ws tb ((m.delNames o).delWait o) L ρ o := ⟨HC9.out.tab.chg0 hcs, HC9.out.own.trans (TOwn.same hcs), (hcs.cell (cell_some HC9.out.bx).1 (fun f => f)).trans HC9.out.bx⟩
        have hnames := names_of hrow (Nat.le_trans HC9.out.own.chg.size HCK.out.size)
        have HD0 := hide hD0; have HNM := hide hnames; have HND := hide hnd; have HMEM := hide hmem; have HSRT := hide hsrt
        clear hD0 hnames hnd hmem hsrt hrow hbel hcs HSC HCK HC9
        obtain ⟨na, nc, rfl, hnc, hcell⟩ := HNM.out
        have HCL := hide hcell; have HNC := hide hnc
        clear hcell hnc HNM
        have hnsl := Nat.le_trans (length_le_of_mem ns l HND.out (fun x hx => (HLN.out.1 x ((HMEM.out x).1 hx)).1)) HLN.out.2
        go_wp2_with fail
        go_loopw [55] (fun v wr => ∃ i : Nat, i ≤ ns.length ∧ v = .int .i64 i ∧ FrD w wr tb ((ns.take i).foldl (dropAt o) ((m.delNames o).delWait o)) L ρ o ∧ Chg (fun k => ρ k ≠ .none) ws wr) (fun v _ => ns.length - (intOf v).toNat)
        case atStart => exact ⟨0, Nat.zero_le _, rfl, HD0.out, Chg.refl _ _⟩
        case round =>
          obtain ⟨i, hi, rfl, hD, hcw⟩ := hrel
          have HD := hide hD; have HCW := hide hcw; clear hD hcw
          by_cases hlt : i < ns.length
          · have hx : ns[i]? = some ns[i] := List.getElem?_eq_getElem hlt
            have hnx := hx
            generalize ns[i] = x at hx hnx
            obtain ⟨g, rfl, hg, hcx⟩ := HCL.out i x hx
            have hgf := HH.out.fresh hg
            have cx : wr.cell? ⟨g, i, none⟩ = some (.string x) := (HCW.out.cell (cell_some hcx).1 (fun hr => hr hgf)).trans hcx
            have hxm : x ∈ ns := List.mem_of_getElem? hx
            obtain ⟨p, hp, hpq⟩ := HPLS.out x ((HMEM.out x).1 hxm)
            have hpx : ((ns.take i).foldl (dropAt o) ((m.delNames o).delWait o)).pl x = some p := by
              classical
              rw [dropAll_pl o _ _ x (HND.out.sublist (List.take_sublist _ _)), if_neg (not_mem_take HND.out hx)]
              exact hp
            have hsn : (ns.take (i + 1)).foldl (dropAt o) ((m.delNames o).delWait o) = dropAt o ((ns.take i).foldl (dropAt o) ((m.delNames o).delWait o)) x := by
              rw [List.take_add_one, hx, Option.toList_some, List.foldl_append]; rfl
            have HSN := hide hsn; have HPX := hide hpx; have HPQ := hide hpq
            clear hsn hpx hpq hp hxm hx hnx hcx hgf hg
            generalize (ns.take i).foldl (dropAt o) ((m.delNames o).delWait o) = mi at HD HPX HSN
            have hT := HD.out.tab
            have c0 : wr.cell? ⟨tb, 0, none⟩ = some (.map (some L.tp)) := by rw [cell_of_row wr _ _ _ _ _ hT.blk]; rfl
            have hl2 : (placesF mi L x).getD (.pointer none) = .pointer (some ⟨(L.pl x).pb, 0, none⟩) := by simp [placesF, HPX.out]
            have HPM := hide hT.mp; have HL2 := hide hl2; have HTT := hide hT
            clear hT hl2
            have hlt' : (i : Int) < (ns.length : Int) := by omega
            go_wp2_with (at_lookup; refine wpList_look1 rfl (.tmp 62) (.tmp 63) 62 rfl 9 67 (.pointer none) Try.underlying62 Try.underlying9 encS_key zeroPl L.tp rfl HPM.out x rfl _ HL2.out ?_)
            obtain ⟨g1, g2, g3, g4⟩ := HTT.out.pl x p HPX.out
            have hcd := Chg.drew NoB wr
            have d0 : wr.cell? ⟨(L.pl x).pb, 0, none⟩ = some (.map (some (L.pl x).hb)) := by rw [cell_of_row wr _ _ _ _ _ g1.blk]; rfl
            have HS14 : Hid ((fun w' : World => w'.cell? ⟨(L.pl x).pb, 0, none⟩ = some (.map (some (L.pl x).hb)) ∧ w'.cell? ⟨w.heap.size, 0, none⟩ = some (.int .u64 o)) wr.drew) := hide ⟨(hcd.cell (cell_some d0).1 (fun f => f)).trans d0, (hcd.cell (cell_some HD.out.bx).1 (fun f => f)).trans HD.out.bx⟩
            have HM14 := hide (g1.held.chg hcd (fun f => f))
            have ht2 : (L.pl x).pb ≠ (L.pl x).hb := fun e => by rw [e, g3] at g2; cases g2
            have hb2 : w.heap.size ≠ (L.pl x).hb := fun e => by have := HH.out.lt (L.pl x).hb (by rw [g3]; simp); omega
            have HKD : Hid (∀ w', Chg (fun k => k = (L.pl x).hb) wr.drew w' → (fun w' : World => w'.cell? ⟨(L.pl x).pb, 0, none⟩ = some (.map (some (L.pl x).hb)) ∧ w'.cell? ⟨w.heap.size, 0, none⟩ = some (.int .u64 o)) w') := hide (fun w' hc => ⟨(hc.cell (cell_some HS14.out.1).1 ht2).trans HS14.out.1, (hc.cell (cell_some HS14.out.2).1 hb2).trans HS14.out.2⟩)
            have HG3 := hide g3; have HG2 := hide g2; have HG4 := hide g4
            clear ht2 hb2 d0 hcd g1 g2 g3 g4 c0 cx HPM HL2
            refine AnyM.region (S := fun w' : World => w'.cell? ⟨(L.pl x).pb, 0, none⟩ = some (.map (some (L.pl x).hb)) ∧ w'.cell? ⟨w.heap.size, 0, none⟩ = some (.int .u64 o)) (late := fun _ => false) (by kernel_rfl) ?_
            have hHeld : (fun w' : World => w'.cell? ⟨(L.pl x).pb, 0, none⟩ = some (.map (some (L.pl x).hb)) ∧ w'.cell? ⟨w.heap.size, 0, none⟩ = some (.int .u64 o)) _ := HS14.out
            refine AnyM.take (i := 0) (v := ?ve0) rfl (by kernel_rfl) (by kernel_rfl) rfl (by kernel_rfl) (by kernel_rfl) (fun _ _ _ h => h) (Or.inl ⟨by rfl, ?ye0⟩) hHeld ?re0
            case ye0 => (intro w hSw; (try dsimp only at hSw); obtain ⟨q1, q2⟩ := hSw; go_simp; try with_reducible rfl)
            try simp only [Act.put, List.setIfInBounds_toArray, List.set_cons_zero, List.set_cons_succ, List.getElem_cons_zero, List.getElem_cons_succ, List.getElem_toArray]
            refine AnyM.take (i := 1) (v := ?ve1) rfl (by kernel_rfl) (by kernel_rfl) rfl (by kernel_rfl) (by kernel_rfl) (fun _ _ _ h => h) (Or.inl ⟨by rfl, ?ye1⟩) hHeld ?re1
            case ye1 => (intro w hSw; (try dsimp only at hSw); obtain ⟨q1, q2⟩ := hSw; go_simp; try with_reducible rfl)
            try simp only [Act.put, List.setIfInBounds_toArray, List.set_cons_zero, List.set_cons_succ, List.getElem_cons_zero, List.getElem_cons_succ, List.getElem_toArray]
            refine AnyM.take (i := 2) (v := ?ve2) rfl (by kernel_rfl) (by kernel_rfl) rfl (by kernel_rfl) (by kernel_rfl) (fun _ _ _ h => h) (Or.inl ⟨by rfl, ?ye2⟩) hHeld ?re2
            case ye2 => (intro w hSw; (try dsimp only at hSw); obtain ⟨q1, q2⟩ := hSw; go_simp; try with_reducible rfl)
            try simp only [Act.put, List.setIfInBounds_toArray, List.set_cons_zero, List.set_cons_succ, List.getElem_cons_zero, List.getElem_cons_succ, List.getElem_toArray]
            refine AnyM.take (i := 3) (v := ?ve3) rfl (by kernel_rfl) (by kernel_rfl) rfl (by kernel_rfl) (by kernel_rfl) (fun _ _ _ h => h) (Or.inl ⟨by rfl, ?ye3⟩) hHeld ?re3
            case ye3 => (intro w hSw; (try dsimp only at hSw); obtain ⟨q1, q2⟩ := hSw; go_simp; try with_reducible rfl)
            try simp only [Act.put, List.setIfInBounds_toArray, List.set_cons_zero, List.set_cons_succ, List.getElem_cons_zero, List.getElem_cons_succ, List.getElem_toArray]
            refine AnyM.take (i := 4) (v := ?ve4) rfl (by kernel_rfl) (by kernel_rfl) rfl (by kernel_rfl) (by kernel_rfl) (fun _ _ _ h => h) (Or.inl ⟨by rfl, ?ye4⟩) hHeld ?re4
            case ye4 => (intro w hSw; (try dsimp only at hSw); obtain ⟨q1, q2⟩ := hSw; go_simp; try with_reducible rfl)
            try simp only [Act.put, List.setIfInBounds_toArray, List.set_cons_zero, List.set_cons_succ, List.getElem_cons_zero, List.getElem_cons_succ, List.getElem_toArray]
            refine AnyM.step (i := 5) (by kernel_rfl) rfl rfl (fun K hK => ?_)
            refine step_del rfl (.tmp 68) (.tmp 69) 68 29 rfl 29 3 Try.underlying68 Try.underlying29 encU_inj encU_key (L.pl x).hb rfl HM14.out o rfl (fun w14 hM14 hc14 => hK.out _ _ (HKD.out _ hc14) (fun _ => ?_))
            clear hK K
            refine AnyM.done (by kernel_rfl) ?_ _
            have hT14 := (HTT.out.chg0 (Chg.drew NoB wr)).delHeld HPX.out hc14 hM14
            have hO14 : TOwn wr ρ w14 ρ := ⟨((Chg.drew _ wr).trans hc14).mono (fun k hk => by have : k = (L.pl x).hb := hk; rw [this, HG3.out]; simp), fun _ h => .inl h⟩
            have bx14 := (HKD.out _ hc14).2
            have hp14 := TM.setPl_at mi x (p.drop o)
            have hg14 := (hT14.pl x _ hp14).1
            have q1 : w14.cell? ⟨(L.pl x).pb, 1, none⟩ = some (.slice (L.pl x).qa p.queue.length (L.pl x).qc) := by rw [cell_of_row w14 _ _ _ _ _ hg14.blk]; rfl
            have hfar : ∀ b, (L.pl x).qa = some b → b.block ≠ w.heap.size := fun b hb e => by
              have := HH.out.lt b.block (by rw [HG4.out b hb]; simp); omega
            have hpqb : p.queue.length ≤ 5000000000000 := by have := HPQ.out; omega
            have HDC := hide (del_calls (q := p.queue) hg14.queue o w.heap.size bx14 hfar hpqb)
            have HT14 := hide hT14; have HO14 := hide hO14; have HP14 := hide hp14; have HG14 := hide hg14; have HBX14 := hide bx14; have HFAR := hide hfar
            clear hT14 hO14 hp14 hg14 bx14 hfar hpqb hM14 hc14 HKD HS14 HM14
            go_wp2_with fail
            refine HDC.out.mono ?_
            rintro e w15 ⟨rfl, hQ15, hc15⟩
            have hpbq : ¬ ∃ b, (L.pl x).qa = some b ∧ b.block = (L.pl x).pb := fun ⟨b, h1, h2⟩ => by have := HG4.out b h1; rw [h2, HG2.out] at this; cases this
            have hblk15 := hc15.blk HG14.out.blk hpbq
            have q15 : w15.cell? ⟨(L.pl x).pb, 1, none⟩ = some (.slice (L.pl x).qa p.queue.length (L.pl x).qc) := by rw [cell_of_row w15 _ _ _ _ _ hblk15]; rfl
            have f15 : w15.frozen? ⟨(L.pl x).pb, 1, none⟩ = false := by simp [World.frozen?, hblk15]
            have hbx15 := (hc15.cell (cell_some HBX14.out).1 (fun ⟨b, h1, h2⟩ => HFAR.out b h1 h2)).trans HBX14.out
            have HB15 := hide hblk15; have HQ15 := hide hQ15; have HC15 := hide hc15; have HX15 := hide hbx15
            clear hblk15 hQ15 hc15 hpbq hbx15 q1
            go_wp2_with fail
            have hW : ∀ W, W = w15.setCell ⟨(L.pl x).pb, 1, none⟩ (.slice (L.pl x).qa (keepO o p.queue).length (L.pl x).qc) → FrD w W tb ((ns.take (i + 1)).foldl (dropAt o) ((m.delNames o).delWait o)) L ρ o ∧ Chg (fun k => ρ k ≠ .none) ws W := by
              rintro W rfl
              have hcB : Chg (fun k => ρ k = .place x ∨ ρ k = .queue x) w14 (w15.setCell ⟨(L.pl x).pb, 1, none⟩ (.slice (L.pl x).qa (keepO o p.queue).length (L.pl x).qc)) :=
                (HC15.out.mono (fun k ⟨b, h1, h2⟩ => .inr (by rw [← h2]; exact HG4.out b h1))).trans ((Chg.cell1 w15 (L.pl x).pb 1 _).mono (fun k hk => .inl (by have : k = (L.pl x).pb := hk; rw [this]; exact HG2.out)))
              have hblk16 : (w15.setCell ⟨(L.pl x).pb, 1, none⟩ (.slice (L.pl x).qa (keepO o p.queue).length (L.pl x).qc)).heap[(L.pl x).pb]? = some (.cells #[.map (some (L.pl x).hb), .slice (L.pl x).qa (keepO o p.queue).length (L.pl x).qc] 71 (0, 0)) := setCell_blk (i := 1) HB15.out _
              have hQ16 := HQ15.out.chg (Chg.cell1 w15 (L.pl x).pb 1 (.slice (L.pl x).qa (keepO o p.queue).length (L.pl x).qc)) (fun b hb e => by
                have e : b.block = (L.pl x).pb := e
                have := HG4.out b hb; rw [e, HG2.out] at this; cases this)
              have hT16 := HT14.out.setQ_same HP14.out hcB hblk16 hQ16
              rw [TM.setPl_setPl] at hT16
              have hd : dropAt o mi x = mi.setPl x (p.out o) := by simp only [dropAt, HPX.out]
              have hO16 : TOwn w14 ρ (w15.setCell ⟨(L.pl x).pb, 1, none⟩ (.slice (L.pl x).qa (keepO o p.queue).length (L.pl x).qc)) ρ := ⟨hcB.mono (fun k hk => by rcases hk with hk | hk <;> rw [hk] <;> simp), fun _ h => .inl h⟩
              have hbp : w.heap.size ≠ (L.pl x).pb := fun e => by have := HH.out.lt (L.pl x).pb (by rw [HG2.out]; simp); omega
              rw [HSN.out, hd]
              exact ⟨⟨hT16, (HD.out.own.trans HO14.out).trans hO16, ((Chg.cell1 w15 (L.pl x).pb 1 _).cell (cell_some HX15.out).1 hbp).trans HX15.out⟩, (HCW.out.trans HO14.out.chg).trans hO16.chg⟩
            obtain ⟨hr1, hr2⟩ := hW _ rfl
            go_roundw
            case rel => exact ⟨i + 1, by omega, by go_num, hr1, hr2⟩
            case measure => simp [intOf]; omega
          · obtain rfl : i = ns.length := by omega
            rw [List.take_length] at HD
            have hcw2 := HCW.out
            have hlt' : ¬ (ns.length : Int) < (ns.length : Int) := by omega
            go_wp2_with fail
            have hE0 := HD.out.start HH.out HCL.out hcw2
            have hdp : ∀ x ∈ ns, (ns.foldl (dropAt o) ((m.delNames o).delWait o)).pl x = (m.pl x).map (·.out o) := fun x hx => by
              classical
              rw [dropAll_pl o _ _ x HND.out, if_pos hx]; rfl
            have hpl2 : ∀ x ∈ ns, ∃ p, (ns.foldl (dropAt o) ((m.delNames o).delWait o)).pl x = some p := fun x hx => by
              obtain ⟨p, hp, -⟩ := HPLS.out x ((HMEM.out x).1 hx)
              exact ⟨_, by rw [hdp x hx, hp]; rfl⟩
            have hsum2 : (ns.map (qlen (ns.foldl (dropAt o) ((m.delNames o).delWait o)))).sum ≤ 5000000000000 := Nat.le_trans (sum_le _ _ _ (fun x hx => qlen_out (hdp x hx))) (HSUM.out ns HND.out)
            refine free_loop2 hE0 hnsl HND.out hpl2 (by simpa using hsum2) _ _ _ _ _ _ _ _ _ _ _ _ _ _ _ _ _ _ _ _ _ _ _ _ _ _ _ _ _ _ _ _ _ _ _ _ _ _ _ _ _ _ _ _ _ _ _ _ _ _ _ _ _ _ _ _ _ _ _ _ _ _ _ _ _ _ _ _ _ _ _ _ _ _ _ _ _ _ _ _ _ _ _ _ _ _ _ _ _ _ _ _ _ _ _ _ _ _ _ _ _ _ _ _ _ _ _ _ _ _ _ _ _ _ _ _ _ _ _ _ _ _ _ _ _ _ _ _ _ _ _ _ _ _ _ _ _ _ _ _ _ _ _ _ _ _ _ _ _ _ _ _ _ _ _ _ _ _ _ _ _ _ _ _ _ _ _ _ _ _ (fun c a d v w h => by cases d <;> exact h) ?_
            intro v0 v1 v2 v3 v4 v5 v6 v7 v8 v9 v10 v11 v12 v13 v14 v15 v16 v17 v18 v19 v20 v21 v22 v23 v24 v25 v26 v27 v28 v29 v30 v31 v32 v33 v34 v35 v36 v37 v38 v39 v40 v41 v42 v43 v44 v45 v46 v47 v48 v49 v50 v51 v52 v53 v54 v55 v56 v57 v58 v59 v60 v61 v62 v63 v64 v65 v66 v67 v68 v69 v70 v71 v72 v73 v74 v75 v76 v77 v78 v79 v80 v81 v82 v83 v84 v85 v86 v87 v88 u82 ov' wx L' ρ' hE
            have hlen := serveAll_len ns (ns.foldl (dropAt o) ((m.delNames o).delWait o), []) HND.out
            obtain ⟨oa, oc, rfl, hrow, hob⟩ := hE.out
            generalize hfm : ns.foldl serveAt (ns.foldl (dropAt o) ((m.delNames o).delWait o), []) = fm at hE hrow hob hlen ⊢
            change freeM m o ns = fm at hfm
            have hlen2 : fm.2.length ≤ 5000000000000 := by simp only [List.length_nil, Nat.zero_add] at hlen; omega
            have HFRE := hide hE; have HROW := hide hrow; have HOB := hide hob; have HLEN := hide hlen2; have HFM := hide hfm
            clear hE hrow hob hlen hlen2 hE0 hdp hpl2 hsum2 hfm
            obtain ⟨iu, hiu, hzu0, hzu1, hzu2⟩ := info_parts infoU64
            have HIU := hide (And.intro hiu (And.intro hzu0 (And.intro hzu1 hzu2)))
            have hmade : ∀ cur : Array Value, cur.size = fm.2.length * 1 → (wx.alloc (.cells cur 29)).ownsRow 0 29 1 (.slice (some ⟨wx.heap.size, 0, none⟩) 0 fm.2.length) 0 [] := fun cur hc => World.ownsRow_made wx cur fm.2.length (Nat.zero_le _) (by have := HLEN.out; unfold maxLen; omega) hc
            have HMADE := hide hmade; have HSRC := hide (row_src HROW.out)
            clear hiu hzu0 hzu1 hzu2 hmade
            have hl0 : (0 : Int) ≤ (fm.2.length : Int) := by omega
            have hsrcA : ∀ ad, oa = some ad → ∀ j u, (fm.2.map (Value.int .u64))[j]? = some u → (wx.alloc (.cells (madeCells #[Value.int .u64 0] fm.2.length) 29)).cell? (ad.add j) = some u := fun ad ha j u hu => by
              have h1 := HSRC.out.2 ad ha j u hu
              exact ((Chg.alloc NoB wx _).cell (cell_some h1).1 (fun f => f)).trans h1
            have hA := HMADE.out (madeCells #[Value.int .u64 0] fm.2.length) (by simp [size_madeCells])
            have HA2 := hide hA; have HSA := hide hsrcA
            clear hA hsrcA
            go_wp2_with (first | (refine wpList_mk rfl (.const (.int .i64 0)) (.tmp 170) 36 rfl 29 iu (.int .u64 0) 1 8 Try.underlying36 HIU.out.1 HIU.out.2.1 HIU.out.2.2.1 HIU.out.2.2.2 .i64 .i64 0 fm.2.length rfl rfl (Nat.zero_le _) (by have := HLEN.out; omega) (by have := HLEN.out; unfold maxLen; omega) ?_) | (at_builtin; refine wpList_app_own rfl (.tmp 171) (.tmp 172) 36 rfl 29 iu (.int .u64 0) 1 8 Try.underlying36 HIU.out.1 HIU.out.2.1 HIU.out.2.2.1 HIU.out.2.2.2 rfl (by decide) _ 0 fm.2.length _ rfl HA2.out oa fm.2.length oc (fm.2.map (Value.int .u64)) rfl HSRC.out.1 (by simp) HSA.out (fun u hu => by obtain ⟨z, _, rfl⟩ := List.mem_map.1 hu; rfl) (by have := HLEN.out; unfold maxLen; omega) (by have := HLEN.out; omega) (Hid.out ?_)))
            refine hide (fun a' c' wz hrz hcz hnz => ?_)
            try simp only [Nat.zero_add, List.nil_append] at hrz
            have hcA := Chg.alloc NoB wx (.cells (madeCells #[Value.int .u64 0] fm.2.length) 29)
            have hcZ : Chg NoB wx wz := hcA.trans' hcz (fun k hk => by
              right
              have hk' : wx.heap.size = k := by first | exact hk | (simpa using hk)
              omega)
            |>.mono (fun _ f => f)
            have hT := HFRE.out.tab.chg0 hcZ
            have hO := HFRE.out.own.trans (TOwn.same (ρ := ρ') hcZ)
            have hbA : ∀ b, a' = some b → w.heap.size ≤ b.block ∧ ρ' b.block = .none := fun b hb => by
              have h1 := hnz b hb
              have h2 : wx.heap.size ≤ b.block := by
                rcases h1 with h1 | h1
                · first | omega | (simp at h1; omega)
                · first | omega | (simp at h1; omega)
              exact ⟨Nat.le_trans HFRE.out.own.chg.size h2, HFRE.out.tab.fresh h2⟩
            have HRZ := hide hrz; have HT := hide hT; have HO := hide hO; have HBA := hide hbA
            clear hrz hcz hnz hcA hcZ hT hO hbA
            try go_frame
            go_wp2_with fail
            go_ret
            rw [← HFM.out] at HRZ HT
            rw [← HFM.out]
            exact ⟨ns, a', c', L', ρ', HND.out, HMEM.out, HSRT.out, rfl, HRZ.out, HBA.out, HT.out, HO.out⟩
end Go.Proofs.Ytjnbbmchmkiodaa
