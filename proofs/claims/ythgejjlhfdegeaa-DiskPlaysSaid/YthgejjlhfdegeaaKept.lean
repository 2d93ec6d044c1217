/- DiskKept: the walk. -/
import Derived.Test.YthgejjlhfdegeaaDiskJ
import Derived.Test.YthgejjlhfdegeaaZeros
namespace Go.Proofs.Ythgejjlhfdegeaa
open Go.RowKit Go.MapKept

theorem kept_facts (x : List UInt8) (hx : x.length = 512) :
    ((DM.fresh 2 4096).write 0 x).2 = 0 ∧ (((DM.fresh 2 4096).write 0 x).1.append x).2 = 0 ∧ ((((DM.fresh 2 4096).write 0 x).1.append x).1.setMark (x.take 9)).2 = 0 ∧
    ((((DM.fresh 2 4096).write 0 x).1.append x).1.setMark (x.take 9)).1.read 0 = (x, 0) ∧ ((((DM.fresh 2 4096).write 0 x).1.append x).1.setMark (x.take 9)).1.logR = (x, 0) ∧
    ((((DM.fresh 2 4096).write 0 x).1.append x).1.setMark (x.take 9)).1.markR = (x.take 9, 0) ∧ (((((DM.fresh 2 4096).write 0 x).1.append x).1.setMark (x.take 9)).1.crash []).read 0 = (x, 0) ∧
    ((((DM.fresh 2 4096).write 0 x).1.append x).1.setMark (x.take 9)).1.waiting.length = 1 ∧ ((DM.fresh 2 4096).write 0 x).1.waiting.length = 1 := by
  have h9 : ¬ 64 < (x.take 9).length := by rw [List.length_take]; omega
  have e1 : (DM.fresh 2 4096).write 0 x = ({ DM.fresh 2 4096 with fuse := -1, ops := 1, waiting := [(0, x)] }, 0) := by
    simp [DM.write, DM.fresh, DM.has, DM.count, hx, wrap64]
  rw [e1]
  have e2 : DM.append ({ DM.fresh 2 4096 with fuse := -1, ops := 1, waiting := [(0, x)] } : DM) x = ({ DM.fresh 2 4096 with fuse := -1, ops := 2, waiting := [(0, x)], log := x }, 0) := by
    simp [DM.append, DM.fresh, DM.count, hx, wrap64]
  simp only
  rw [e2]
  have e3 : DM.setMark ({ DM.fresh 2 4096 with fuse := -1, ops := 2, waiting := [(0, x)], log := x } : DM) (x.take 9) = ({ DM.fresh 2 4096 with fuse := -1, ops := 3, waiting := [(0, x)], log := x, mark := x.take 9 }, 0) := by
    simp only [DM.setMark, DM.fresh, DM.count]
    rw [if_neg (by simp), if_neg h9]
    simp [wrap64]
  simp only
  rw [e3]
  refine ⟨trivial, trivial, rfl, ?_, ?_, ?_, ?_, rfl, rfl⟩
  · simp [DM.read, DM.fresh, DM.has, DM.page, lastOf]
  · simp [DM.logR, DM.fresh]
  · simp [DM.markR, DM.fresh]
  · simp [DM.read, DM.crash, DM.fresh, DM.has, DM.page, lastOf, crashTo, chAt]

/-- An owned row of bytes that is not empty: its block. -/
theorem row_block {w : World} {e : TypeId} {a : Option Addr} {k c n : Nat} {xs : List Value} (h : w.ownsRow 0 e 1 (.slice a k c) n xs) (hn : 0 < n) :
    ∃ g cur, a = some ⟨g, 0, none⟩ ∧ k = n ∧ w.heap[g]? = some (.cells cur e (0, 0)) ∧ n ≤ c ∧ cur.size = c ∧ cur.toList.take n = xs := by
  rcases h.2 with ⟨_, h0⟩ | ⟨g, cap, cur, hv, _, hg, h1, _, h3, h4⟩
  · omega
  · simp only [Value.slice.injEq] at hv
    obtain ⟨rfl, rfl, rfl⟩ := hv
    exact ⟨g, cur, rfl, rfl, hg, h1, by simpa using h3, by simpa using h4⟩
theorem row_nil (w : World) (e : TypeId) : (w.alloc (.cells #[] e)).ownsRow 0 e 1 (.slice (some ⟨w.heap.size, 0, none⟩) 0 0) 0 [] :=
  ⟨rfl, .inr ⟨w.heap.size, 0, #[], rfl, Nat.zero_le _, heap_alloc_new w _, Nat.le_refl _, by unfold maxLen; omega, rfl, rfl⟩⟩

theorem BS.byte {w : World} {g n c : Nat} {l : List UInt8} (h : BS w (some ⟨g, 0, none⟩) n c l) {j : Nat} (hj : j < n) : ∃ v : Int, w.cell? ⟨g, j, none⟩ = some (.int .u8 v) := by
  have hj' : j < l.length := by rw [← h.len]; exact hj
  have := h.cell _ rfl j (.int .u8 l[j].toNat) (by simp [bcells, bcell, hj'])
  rw [add_zero_off] at this
  exact ⟨_, this⟩
theorem unfrozen {w : World} {g : Nat} {cs : Array Value} {t : TypeId} (h : w.heap[g]? = some (.cells cs t (0, 0))) (i : Nat) : w.frozen? ⟨g, i, none⟩ = false := by simp [World.frozen?, h]

theorem new_cells {w : World} {n : Nat} (hn : n = w.heap.size) (l : List Value) (t : TypeId) : ∀ ad, some (⟨n, 0, none⟩ : Addr) = some ad → ∀ j u, l[j]? = some u → (w.alloc (.cells l.toArray t)).cell? (ad.add j) = some u := by
  rintro ad h j u hu
  cases h
  subst hn
  rw [add_zero_off, cell_of_row _ _ j l.toArray t (0, 0) (heap_alloc_new w _)]
  simpa using hu
theorem three_stores {w : World} {gp gl gm : Nat} (l : List UInt8) {t : TypeId} (h2 : gm ≠ gl) (h3 : gl ≠ gp) (hg : w.heap[gl]? = some (.cells (bcells l).toArray t (0, 0))) (hl : l.length = 512) (u1 u2 u3 : Value) (o : Obj) :
    ((((w.setCell ⟨gp, 0, none⟩ u1).setCell ⟨gl, 0, none⟩ u2).setCell ⟨gm, 0, none⟩ u3).alloc o).ownsRow 0 t 1 (.slice (some ⟨gl, 0, none⟩) 512 512) 512 ((bcells l).toArray.setIfInBounds 0 u2).toList := by
  have e1 := alloc_blk (setCell_blk_other (i := 0) (setCell_blk (i := 0) (setCell_blk_other (i := 0) hg h3 u1) u2) (Ne.symm h2) u3) o
  refine ⟨by simp [bcells_length, hl], .inr ⟨gl, 512, _, rfl, Nat.zero_le _, e1, Nat.le_refl _, by unfold maxLen; omega, by simp [bcells_length, hl], ?_⟩⟩
  rw [Nat.mul_one, List.take_of_length_le]
  simp [bcells_length, hl]
theorem three_chg (w : World) (gp gl gm : Nat) (u1 u2 u3 : Value) : Chg (fun k => k = gp ∨ k = gl ∨ k = gm) w (((w.setCell ⟨gp, 0, none⟩ u1).setCell ⟨gl, 0, none⟩ u2).setCell ⟨gm, 0, none⟩ u3) :=
  ((Chg.setCell (F := fun k => k = gp ∨ k = gl ∨ k = gm) w (p := ⟨gp, 0, none⟩) (.inl rfl) u1).trans (Chg.setCell _ (p := ⟨gl, 0, none⟩) (.inr (.inl rfl)) u2)).trans (Chg.setCell _ (p := ⟨gm, 0, none⟩) (.inr (.inr rfl)) u3)

set_option maxHeartbeats 4000000 in
set_option maxRecDepth 100000 in
theorem kept_walk (w : World) (ba : Option Addr) (bn bc : Nat) (b : List UInt8) (hb : BS w ba bn bc b) (hbn : bn ≤ 140737488351232) :
    Calls Try.prog 4 #[.slice ba bn bc] w fun e w' => e = .returned (.bool true) ∧ Chg NoB w w' := by
  obtain ⟨iu, hu, hu0, hu1, hu2⟩ := info_parts infoU8
  have hsz64 : (Try.prog.info? (Try.prog.elem 28)).map (·.size) = some 1 := by kernel_rfl
  have hbl := hb.len
  have HBL := hide hbl; clear hbl
  have hnil : ba = none → bn = 0 ∧ bc = 0 := fun e => ⟨by have := hb.nil e; have := hb.cap; omega, hb.nil e⟩
  have HNIL := hide hnil; clear hnil
  go_enter Try.func4, Try.ntmps4
  go_wp2_with fail
  refine (awake_calls _).mono ?_
  rintro e w1 ⟨rfl, hc1⟩
  go_wp2_with fail
  refine (new_disk 2 4096 _ (by omega) (by omega) (by omega)).mono ?_
  rintro e w2 ⟨rfl, hD, hc2, hs2⟩
  have HS2 := hide hs2; clear hs2
  have hcA := hc1.trans hc2
  have hlt1 : w1.heap.size + 2 < w2.heap.size := by have := HS2.out; omega
  have hg0 : w.heap.size ≤ w1.heap.size := hc1.size
  generalize w1.heap.size = g0 at hD HS2 hlt1 hg0 ⊢
  go_wp2_with (first | (at_builtin; refine wpList_app_own rfl (.tmp 26) (.tmp 27) 28 rfl 5 iu (.int .u8 0) 1 1 Try.underlying28 hu hu0 hu1 hu2 rfl (by decide) (some ⟨w2.heap.size, 0, none⟩) 0 0 [] rfl (row_nil w2 5) ba bn bc (bcells b) rfl HNIL.out (by rw [bcells_length, Nat.mul_one]; exact HBL.out.symm) ((hb.chg0 hcA).chg0 (Chg.alloc NoB w2 _)).cell (bcells_one b) (by unfold maxLen; omega) (by omega) (Hid.out ?_)))
  refine hide (fun a3 c3 w3 hr3 hc3 hat3 => ?_)
  try go_frame
  go_wp2_with (first | (at_builtin; refine wpList_app_zeros rfl (.tmp 28) (.const (.int .i64 513)) 28 3 rfl 5 iu (.int .u8 0) 1 .i64 .i64 Try.underlying28 Try.underlying3 hu hu0 hu1 hu2 rfl rfl a3 bn c3 (bcells b) rfl hr3 513 rfl (by omega) (by omega) (by omega) (Hid.out ?_)))
  refine hide (fun a4 c4 w4 hr4 hc4 hat4 => ?_)
  obtain ⟨g, cur, rfl, _, hg, hgc, hgs, hgt⟩ := row_block hr4 (by omega)
  have hcB : Chg NoB w2 w4 := ((Chg.alloc NoB w2 _).trans' hc3 (fun i hi => .inr (by omega))).trans' hc4 (fun i ⟨b, hb, hbi⟩ => .inr (by have := hat3 b hb; omega))
  have hgn : w2.heap.size ≤ g := by
    rcases hat4 _ rfl with ⟨b, hb, hbg⟩ | h
    · have := hat3 b hb; have : b.block = g := hbg; omega
    · have := hc3.size; have : w3.heap.size ≤ g := h; simp only [World.size_alloc] at *; omega
  obtain ⟨x, hx⟩ : ∃ x, x = (b ++ List.replicate 513 0).take 512 := ⟨_, rfl⟩
  have hxl : x.length = 512 := by rw [hx, List.length_take, List.length_append, List.length_replicate]; omega
  have hgx : cur.toList.take 512 = bcells x := by
    have e1 : cur.toList.take 512 = (cur.toList.take (bn + 513)).take 512 := by rw [List.take_take, Nat.min_eq_left (by omega)]
    rw [e1, hgt, hx, bcells_take, bcells_append, zcells_u8]
  have HX := hide hx; clear hx
  have hc4c : (512 : Int) ≤ (c4 : Int) := by omega
  have hBx : ∀ w', w'.heap[g]? = some (.cells cur 5 (0, 0)) → BS w' (some ⟨g, 0, none⟩) 512 c4 x := fun w' hw => BS.block hw hxl.symm (by omega) hgx
  have HBX := hide hBx; clear hBx
  have HXL := hide hxl; clear hxl
  have HGX := hide hgx; clear hgx hgt
  have HGS := hide hgs; clear hgs
  clear hr3 hc3 hat3 hc4 hat4
  have hD4 := hD.chg0 hcB
  have hcC := hcA.trans hcB
  have hcA' : w.heap.size ≤ w2.heap.size := hcA.size
  clear hD hcA hcB w3 hr4
  have HG := hide hg; clear hg
  try go_frame
  go_wp2_with (first | (at_builtin; refine wpList_app_own rfl (.tmp 31) (.tmp 32) 28 rfl 5 iu (.int .u8 0) 1 1 Try.underlying28 hu hu0 hu1 hu2 rfl (by decide) (some ⟨w4.heap.size, 0, none⟩) 0 0 [] rfl (row_nil w4 5) (some ⟨g, 0, none⟩) 512 c4 (bcells x) rfl (fun e => by cases e) (by rw [bcells_length, Nat.mul_one]; exact HXL.out) (HBX.out _ (alloc_blk HG.out _)).cell (bcells_one x) (by unfold maxLen; omega) (by omega) (Hid.out ?_)))
  refine hide (fun a5 c5 w5 hr5 hc5 hat5 => ?_)
  have hcD : Chg NoB w4 w5 := (Chg.alloc NoB w4 _).trans' hc5 (fun i hi => .inr (by omega))
  obtain ⟨gy, cury, rfl, _, hgy, hgyc, hgys, hgyt⟩ := row_block hr5 (by omega)
  have hgy4 : w4.heap.size ≤ gy := by have := hat5 _ rfl; simp only at this; omega
  have hgy5 : gy < w5.heap.size := heap_lt hgy
  have hD5 := hD4.chg0 hcD
  have hcE := hcC.trans hcD
  have hg5 := hcD.blk HG.out (fun f => f)
  have hgl : g < w4.heap.size := heap_lt HG.out
  have hs45 := hcD.size
  have hs24 : w2.heap.size ≤ w4.heap.size := by omega
  have hyc : (512 : Int) ≤ (c5 : Int) := by omega
  have hgyt' : cury.toList.take 512 = bcells x := hgyt
  have hBy : ∀ w', w'.heap[gy]? = some (.cells cury 5 (0, 0)) → BS w' (some ⟨gy, 0, none⟩) 512 c5 x := fun w' hw => BS.block hw HXL.out.symm (by omega) hgyt'
  have hBy9 : ∀ w', w'.heap[gy]? = some (.cells cury 5 (0, 0)) → BS w' (some ⟨gy, 0, none⟩) 9 c5 (x.take 9) := fun w' hw => BS.block hw (by rw [List.length_take, HXL.out]; rfl) (by omega) (by rw [bcells_take, ← hgyt', List.take_take]; rfl)
  have hBx9 : ∀ w', w'.heap[g]? = some (.cells cur 5 (0, 0)) → BS w' (some ⟨g, 0, none⟩) 9 c4 (x.take 9) := fun w' hw => BS.block hw (by rw [List.length_take, HXL.out]; rfl) (by omega) (by rw [bcells_take, ← HGX.out, List.take_take]; rfl)
  have HBY := hide hBy; have HBY9 := hide hBy9; have HBX9 := hide hBx9
  clear hBy hBy9 hBx9 hgyt hgyt' hgys hgyc
  clear hr5 hc5 hat5 hD4 hcC
  obtain ⟨p1, p2, p3, p4, p5, p6, p7, p8, p9⟩ := kept_facts x HXL.out
  have P4 := hide p4; have P5 := hide p5; have P6 := hide p6; have P7 := hide p7; have P8 := hide p8; have P9 := hide p9
  clear p4 p5 p6 p7 p8 p9
  have HP1 := hide p1; have HP2 := hide p2; have HP3 := hide p3
  clear p1 p2 p3
  have hgF : ∀ k, w2.heap.size ≤ k → ¬ onlyNew g0 k := fun k hk h => by rcases h with h | h | h <;> omega
  go_wp2_with fail
  refine (hD5.write 0 _ _ _ x (HBX.out _ hg5) (by simp [DM.fresh])).mono ?_
  rintro e w6 ⟨he, F1, C1, hD6, ho6⟩
  rw [HP1.out] at he
  subst he
  have hg6 := ho6.chg.blk hg5 (hgF g hgn)
  have hy6 := ho6.chg.blk hgy (hgF gy (by omega))
  have hF1 : ∀ k, F1 k → onlyNew g0 k ∨ w5.heap.size ≤ k := ho6.f
  have nF1 : ∀ k, w2.heap.size ≤ k → k < w5.heap.size → ¬ F1 k := fun k hk h2 hf => (hF1 k hf).elim (hgF k hk) (fun h => by omega)
  have hc6 := hcE.trans' ho6.chg (fun i hi => .inr (by rcases hi with h | h | h <;> omega))
  have hs6 := ho6.chg.size
  go_wp2_with fail
  refine (hD6.append _ _ _ x (HBX.out _ hg6) (fun b hb _ => by cases hb; exact nF1 g (by omega) (by omega)) (by unfold maxLen; omega)).mono ?_
  rintro e w7 ⟨he, F2, C2, hD7, ho7⟩
  rw [HP2.out] at he
  subst he
  have hg7 := ho7.chg.blk hg6 (nF1 g (by omega) (by omega))
  have hy7 := ho7.chg.blk hy6 (nF1 gy (by omega) (by omega))
  have hF2 : ∀ k, F2 k → onlyNew g0 k ∨ w5.heap.size ≤ k := fun k hk => (ho7.f k hk).elim (hF1 k) (fun h => .inr (by omega))
  have nF2 : ∀ k, w2.heap.size ≤ k → k < w5.heap.size → ¬ F2 k := fun k hk h2 hf => (hF2 k hf).elim (hgF k hk) (fun h => by omega)
  have hc7 := hc6.trans' ho7.chg (fun i hi => (hF1 i hi).elim (fun h => .inr (by rcases h with h | h | h <;> omega)) (fun h => .inr (by have := hcE.size; omega)))
  have hs7 := ho7.chg.size
  go_wp2_with fail
  refine (hD7.mark _ _ _ (x.take 9) (HBX9.out _ hg7) (fun b hb _ => by cases hb; exact nF2 g (by omega) (by omega))).mono ?_
  rintro e w8 ⟨he, F3, C3, hD8, ho8⟩
  rw [HP3.out] at he
  subst he
  have hg8 := ho8.chg.blk hg7 (nF2 g (by omega) (by omega))
  have hy8 := ho8.chg.blk hy7 (nF2 gy (by omega) (by omega))
  have hF3 : ∀ k, F3 k → onlyNew g0 k ∨ w5.heap.size ≤ k := fun k hk => (ho8.f k hk).elim (hF2 k) (fun h => .inr (by omega))
  have nF3 : ∀ k, w2.heap.size ≤ k → k < w5.heap.size → ¬ F3 k := fun k hk h2 hf => (hF3 k hf).elim (hgF k hk) (fun h => by omega)
  have hc8 := hc7.trans' ho8.chg (fun i hi => (hF2 i hi).elim (fun h => .inr (by rcases h with h | h | h <;> omega)) (fun h => .inr (by have := hcE.size; omega)))
  have hs8 := ho8.chg.size
  have hC3 : ∀ k, C3 k → w5.heap.size ≤ k := fun k hk => by
    rcases ho8.c k hk with h | h
    · rcases ho7.c k h with h | h
      · rcases ho6.c k h with h | h
        · exact h.elim
        · exact h
      · omega
    · omega
  clear ho6 ho7 ho8 hD5 hD6 hD7 hg5 hg6 hg7 hy6 hy7 nF1 nF2 hF1 hF2 HP1 HP2 HP3
  have k1 := conv_str (HBX.out _ hg8)
  have k2 := conv_str (HBY.out _ hy8)
  go_wp2_with fail
  clear k1 k2
  go_loopw [7] (fun i wr => ∃ k : Nat, k ≤ 512 ∧ i = .int .i64 k ∧ Chg (fun j => j = g) w8 wr ∧ ∃ cu : Array Value, wr.heap[g]? = some (.cells cu 5 (0, 0)) ∧ ∀ j, j < 512 → ∃ v : Int, cu[j]? = some (.int .u8 v)) (fun i _ => 512 - (intOf i).toNat)
  case atStart =>
    refine ⟨0, by omega, rfl, Chg.refl _ _, cur, hg8, fun j hj => ?_⟩
    have e1 : (cur.toList.take 512)[j]? = (bcells x)[j]? := by rw [HGX.out]
    rw [List.getElem?_take_of_lt hj] at e1
    have hjx : j < x.length := by rw [HXL.out]; exact hj
    exact ⟨_, by rw [← Array.getElem?_toList, e1]; simp [bcells, bcell, hjx]; rfl⟩
  case round =>
    obtain ⟨k, hk, rfl, hcL, cu, hgL, hcu⟩ := hrel
    by_cases hlt : k < 512
    · obtain ⟨v, hv⟩ := hcu k hlt
      have hcell : wr.cell? ⟨g, k, none⟩ = some (.int .u8 v) := by rw [cell_of_row wr g k cu _ _ hgL]; exact hv
      have hfz : wr.frozen? ⟨g, k, none⟩ = false := by simp [World.frozen?, hgL]
      have HL := hide hgL; clear hgL
      have HCU := hide hcu; clear hcu
      go_wp2_with fail
      go_roundw
      case rel =>
        refine ⟨k + 1, by omega, by go_num, hcL.trans (Chg.cell1 _ _ _ _), _, setCell_blk HL.out _, fun j hj => ?_⟩
        by_cases hjk : j = k
        · subst hjk
          have := (Array.getElem?_eq_some_iff.1 hv).1
          exact ⟨_, by rw [Array.getElem?_setIfInBounds_self_of_lt this]⟩
        · obtain ⟨u, hu⟩ := HCU.out j hj
          exact ⟨u, by rw [Array.getElem?_setIfInBounds_ne (by omega)]; exact hu⟩
      case measure => simp [intOf]; omega
    · obtain rfl : k = 512 := by omega
      clear hcu hgL
      have hD9 := hD8.chg hcL (fun k hk h => by subst h; exact nF3 _ (by omega) (by omega) hk) (fun k hk h => by subst h; have := hC3 _ hk; omega)
      have hc9 := hc8.trans' hcL (fun i hi => .inr (by have := hcA'; omega))
      have hy9 := hcL.blk hy8 (by omega)
      have hs9 := hcL.size
      clear hcL hy8 hg8 hD8 hc8
      go_wp2_with fail
      refine (hD9.read 0).mono ?_
      rw [P4.out]
      rintro e w10 (⟨_, rfl, rfl⟩ | ⟨hne, _⟩)
      rotate_left
      · exact absurd rfl hne
      simp only [HXL.out]
      have hB10 : BS (wr.alloc (.cells (bcells x).toArray 5)) (some ⟨wr.heap.size, 0, none⟩) 512 512 x := BS.newblock wr x HXL.out.symm
      have hb10 : (wr.alloc (.cells (bcells x).toArray 5)).heap[wr.heap.size]? = some (.cells (bcells x).toArray 5 (0, 0)) := heap_alloc_new wr _
      have hcc10 : Chg NoB wr (wr.alloc (.cells (bcells x).toArray 5)) := Chg.alloc _ _ _
      have hz10 : (wr.alloc (.cells (bcells x).toArray 5)).heap.size = wr.heap.size + 1 := by simp
      generalize wr.alloc (.cells (bcells x).toArray 5) = w10 at hB10 hb10 hcc10 hz10 ⊢
      have hD10 := hD9.chg0 hcc10
      have hc10 := hc9.trans hcc10
      have hy10 := hcc10.blk hy9 (fun f => f)
      have HZ10 := hide hz10
      obtain ⟨gp, hgp⟩ : ∃ gp, gp = wr.heap.size := ⟨_, rfl⟩
      rw [← hgp] at hB10 hb10 hz10 ⊢
      have HGP := hide hgp; clear hgp
      have hD9sz : ∀ k, F3 k → k < wr.heap.size := hD9.lt
      have hC9sz : ∀ k, C3 k → k < wr.heap.size := hD9.ltC
      clear hcc10 hD9 hc9 hy9 HZ10
      have HZ10 := hide hz10; clear hz10
      have HB10 := hide hb10; clear hb10
      go_wp2_with fail
      refine (hD10.log).mono ?_
      rw [P5.out]
      rintro e w11 (⟨_, rfl, rfl⟩ | ⟨hne, _⟩)
      rotate_left
      · exact absurd rfl hne
      simp only [HXL.out]
      have hB11 : BS (w10.alloc (.cells (bcells x).toArray 5)) (some ⟨w10.heap.size, 0, none⟩) 512 512 x := BS.newblock w10 x HXL.out.symm
      have hb11 : (w10.alloc (.cells (bcells x).toArray 5)).heap[w10.heap.size]? = some (.cells (bcells x).toArray 5 (0, 0)) := heap_alloc_new w10 _
      have hcc11 : Chg NoB w10 (w10.alloc (.cells (bcells x).toArray 5)) := Chg.alloc _ _ _
      have hz11 : (w10.alloc (.cells (bcells x).toArray 5)).heap.size = w10.heap.size + 1 := by simp
      generalize w10.alloc (.cells (bcells x).toArray 5) = w11 at hB11 hb11 hcc11 hz11 ⊢
      have hD11 := hD10.chg0 hcc11
      have hc11 := hc10.trans hcc11
      have hy11 := hcc11.blk hy10 (fun f => f)
      have hb10' := hcc11.blk HB10.out (fun f => f)
      have hB10' := hB10.chg0 hcc11
      obtain ⟨gl, hgl'⟩ : ∃ gl, gl = w10.heap.size := ⟨_, rfl⟩
      rw [← hgl'] at hB11 hb11 hz11 ⊢
      have HGL := hide hgl'; clear hgl'
      clear hcc11 hD10 hc10 hy10 hB10 HB10
      have HZ11 := hide hz11; clear hz11
      have HB11 := hide hb11; clear hb11
      have HB10' := hide hb10'; clear hb10'
      go_wp2_with fail
      refine (hD11.marked).mono ?_
      rw [P6.out]
      rintro e w12 (⟨_, rfl, rfl⟩ | ⟨hne, _⟩)
      rotate_left
      · exact absurd rfl hne
      have hl9 : (x.take 9).length = 9 := by rw [List.length_take, HXL.out]; rfl
      simp only [hl9]
      have hB12 : BS (w11.alloc (.cells (bcells (x.take 9)).toArray 5)) (some ⟨w11.heap.size, 0, none⟩) 9 9 (x.take 9) := BS.newblock w11 (x.take 9) hl9.symm
      have hb12 : (w11.alloc (.cells (bcells (x.take 9)).toArray 5)).heap[w11.heap.size]? = some (.cells (bcells (x.take 9)).toArray 5 (0, 0)) := heap_alloc_new w11 _
      have hcc12 : Chg NoB w11 (w11.alloc (.cells (bcells (x.take 9)).toArray 5)) := Chg.alloc _ _ _
      have hz12 : (w11.alloc (.cells (bcells (x.take 9)).toArray 5)).heap.size = w11.heap.size + 1 := by simp
      generalize w11.alloc (.cells (bcells (x.take 9)).toArray 5) = w12 at hB12 hb12 hcc12 hz12 ⊢
      have hD12 := hD11.chg0 hcc12
      have hc12 := hc11.trans hcc12
      have hy12 := hcc12.blk hy11 (fun f => f)
      have hb10 := hcc12.blk HB10'.out (fun f => f)
      have hb11 := hcc12.blk HB11.out (fun f => f)
      have hB10 := hB10'.chg0 hcc12
      have hB11' := hB11.chg0 hcc12
      obtain ⟨gm, hgm⟩ : ∃ gm, gm = w11.heap.size := ⟨_, rfl⟩
      rw [← hgm] at hB12 hb12 hz12 ⊢
      have HGM := hide hgm; clear hgm
      clear hcc12 hD11 hc11 hy11 hB11 HB11 hB10' HB10' hl9
      have HZ12 := hide hz12; clear hz12
      have HB12 := hide hb12; clear hb12
      have HB11 := hide hb11; clear hb11
      have HB10 := hide hb10; clear hb10
      have HY12 := hide hy12; clear hy12
      go_wp2_with fail
      have k1 := fun n => conv_str (hB10.drewN n)
      have k2 := fun n => conv_str (hB11'.drewN n)
      have k3 := fun n => conv_str (hB12.drewN n)
      have k4 := fun n => conv_str ((HBY.out _ HY12.out).drewN n)
      have k5 := fun n => conv_str ((HBY9.out _ HY12.out).drewN n)
      have HHB10 := hide hB10; have HHB11 := hide hB11'; have HHB12 := hide hB12; clear hB10 hB11' hB12
      go_quiet (fail)
      clear k1 k2 k3 k4 k5
      have hcn := Chg.drewN NoB w12 nq
      have hz13 : (w12.drewN nq).heap.size = w12.heap.size := rfl
      generalize w12.drewN nq = w13 at hcn hz13 ⊢
      have HZ13 := hide hz13; clear hz13
      have hD13 := hD12.chg0 hcn
      have hc13 := hc12.trans hcn
      have hy13 := hcn.blk HY12.out (fun f => f)
      have hb10 := hcn.blk HB10.out (fun f => f)
      have hb11 := hcn.blk HB11.out (fun f => f)
      have hb12 := hcn.blk HB12.out (fun f => f)
      obtain ⟨vp, cp⟩ := (HHB10.out.chg0 hcn).byte (j := 0) (by omega)
      obtain ⟨vl, cl⟩ := (HHB11.out.chg0 hcn).byte (j := 0) (by omega)
      obtain ⟨vm, cm⟩ := (HHB12.out.chg0 hcn).byte (j := 0) (by omega)
      have fp := unfrozen hb10 0
      have fl := unfrozen hb11 0
      have fm := unfrozen hb12 0
      have n1 : gl ≠ gp := by have := HGP.out; have := HGL.out; have := HZ10.out; omega
      have n2 : gm ≠ gp := by have := HGP.out; have := HGM.out; have := HGL.out; have := HZ10.out; have := HZ11.out; omega
      have n3 : gm ≠ gl := by have := HGM.out; have := HGL.out; have := HZ11.out; omega
      have HY13 := hide hy13; clear hy13
      have HB10 := hide hb10; have HB11 := hide hb11; have HB12 := hide hb12; clear hb10 hb11 hb12
      clear hcn hD12 hc12 HY12
      have HOWN := hide (fun u1 u2 u3 o => three_stores (gp := gp) (gm := gm) x n3 n1 HB11.out HXL.out u1 u2 u3 o)
      go_wp2_with (first | (at_builtin; refine wpList_app_own rfl (.tmp 135) (.tmp 136) 28 rfl 5 iu (.int .u8 0) 1 1 Try.underlying28 hu hu0 hu1 hu2 rfl (by decide) (some ⟨gl, 0, none⟩) 512 512 _ rfl (HOWN.out _ _ _ _) (some ⟨w13.heap.size, 0, none⟩) 1 1 [.int .u8 9] rfl (fun e => by cases e) rfl (new_cells (by simp) _ _) (by simp [Value.oneCell']) (by unfold maxLen; omega) (by omega) (Hid.out ?_)))
      refine hide (fun a14 c14 w14 hr14 hc14 hat14 => ?_)
      have hc34 := ((three_chg w13 gp gl gm _ _ _).trans (Chg.alloc _ _ _)).trans (hc14.mono (G := fun k => k = gp ∨ k = gl ∨ k = gm) (fun k hk => .inr (.inl (by first | exact hk.symm | exact hk | (obtain ⟨b, hb, rfl⟩ := hk; cases hb; rfl)))))
      clear hr14 hc14 hat14 cp cl cm fp fl fm
      have HN := hide (And.intro n1 (And.intro n2 n3)); clear n1 n2 n3
      have hlo : w.heap.size ≤ wr.heap.size := by omega
      have hgg : ∀ k, k = gp ∨ k = gl ∨ k = gm → wr.heap.size ≤ k := fun k hk => by have := HGP.out; have := HGM.out; have := HGL.out; have := HZ10.out; have := HZ11.out; omega
      have hD14 := hD13.chg hc34 (fun k hk h => by have := hgg k h; have := hD9sz k hk; omega) (fun k hk h => by have := hgg k h; have := hC9sz k hk; omega)
      have hc14 := hc13.trans' hc34 (fun k hk => .inr (by have := hgg k hk; omega))
      have hy14 := hc34.blk HY13.out (fun h => by have := hgg _ h; omega)
      clear hc34 hD13 hc13 HY13 HOWN HB10 HB11 HB12
      have HY14 := hide hy14; clear hy14
      try go_frame
      go_wp2_with fail
      refine (hD14.crash none 0 0 [] (BS.nil' _) (by rw [P8.out]; omega)).mono ?_
      rintro e w15 ⟨ob, F5, C5, rfl, hE15, hcc15, _, _⟩
      have hD15 := hD14.chg0 hcc15
      have hc15 := hc14.trans hcc15
      have HY15 := hide (hcc15.blk HY14.out (fun f => f))
      clear hD14 hc14 hcc15 HY14
      go_wp2_with fail
      refine (hD15.read 0).mono ?_
      rw [P4.out]
      rintro e w16 (⟨_, rfl, rfl⟩ | ⟨hne, _⟩)
      rotate_left
      · exact absurd rfl hne
      simp only [HXL.out]
      have hB16 : BS (w15.alloc (.cells (bcells x).toArray 5)) (some ⟨w15.heap.size, 0, none⟩) 512 512 x := BS.newblock w15 x HXL.out.symm
      have hcc16 : Chg NoB w15 (w15.alloc (.cells (bcells x).toArray 5)) := Chg.alloc _ _ _
      generalize w15.alloc (.cells (bcells x).toArray 5) = w16 at hB16 hcc16 ⊢
      generalize w15.heap.size = gq at hB16 ⊢
      have hD16 := hD15.chg0 hcc16
      have hE16 := hE15.chg0 hcc16
      have hc16 := hc15.trans hcc16
      have HY16 := hide (hcc16.blk HY15.out (fun f => f))
      clear hD15 hE15 hc15 hcc16 HY15
      go_wp2_with fail
      refine (hD16.log).mono ?_
      rw [P5.out]
      rintro e w17 (⟨_, rfl, rfl⟩ | ⟨hne, _⟩)
      rotate_left
      · exact absurd rfl hne
      simp only [HXL.out]
      have hB17 : BS (w16.alloc (.cells (bcells x).toArray 5)) (some ⟨w16.heap.size, 0, none⟩) 512 512 x := BS.newblock w16 x HXL.out.symm
      have hcc17 : Chg NoB w16 (w16.alloc (.cells (bcells x).toArray 5)) := Chg.alloc _ _ _
      generalize w16.alloc (.cells (bcells x).toArray 5) = w17 at hB17 hcc17 ⊢
      generalize w16.heap.size = gk at hB17 ⊢
      have hD17 := hD16.chg0 hcc17
      have hE17 := hE16.chg0 hcc17
      have hc17 := hc16.trans hcc17
      have hB16' := hB16.chg0 hcc17
      have HY17 := hide (hcc17.blk HY16.out (fun f => f))
      clear hD16 hE16 hc16 hcc17 HY16 hB16
      go_wp2_with fail
      refine (hD17.marked).mono ?_
      rw [P6.out]
      rintro e w18 (⟨_, rfl, rfl⟩ | ⟨hne, _⟩)
      rotate_left
      · exact absurd rfl hne
      have hl9 : (x.take 9).length = 9 := by rw [List.length_take, HXL.out]; rfl
      simp only [hl9]
      have hB18 : BS (w17.alloc (.cells (bcells (x.take 9)).toArray 5)) (some ⟨w17.heap.size, 0, none⟩) 9 9 (x.take 9) := BS.newblock w17 (x.take 9) hl9.symm
      have hcc18 : Chg NoB w17 (w17.alloc (.cells (bcells (x.take 9)).toArray 5)) := Chg.alloc _ _ _
      clear hl9
      generalize w17.alloc (.cells (bcells (x.take 9)).toArray 5) = w18 at hB18 hcc18 ⊢
      generalize w17.heap.size = gn at hB18 ⊢
      have hE18 := hE17.chg0 hcc18
      have hc18 := hc17.trans hcc18
      have hB16 := hB16'.chg0 hcc18
      have hB17' := hB17.chg0 hcc18
      have HY18 := hide (hcc18.blk HY17.out (fun f => f))
      clear hD17 hE17 hc17 hcc18 HY17 hB16' hB17
      go_wp2_with fail
      refine (hE18.read 0).mono ?_
      rw [P7.out]
      rintro e w19 (⟨_, rfl, rfl⟩ | ⟨hne, _⟩)
      rotate_left
      · exact absurd rfl hne
      simp only [HXL.out]
      have hB19 : BS (w18.alloc (.cells (bcells x).toArray 5)) (some ⟨w18.heap.size, 0, none⟩) 512 512 x := BS.newblock w18 x HXL.out.symm
      have hcc19 : Chg NoB w18 (w18.alloc (.cells (bcells x).toArray 5)) := Chg.alloc _ _ _
      generalize w18.alloc (.cells (bcells x).toArray 5) = w19 at hB19 hcc19 ⊢
      generalize w18.heap.size = gz at hB19 ⊢
      have hc19 := hc18.trans hcc19
      have hB16' := hB16.chg0 hcc19
      have hB17 := hB17'.chg0 hcc19
      have hB18' := hB18.chg0 hcc19
      have HY19 := hide (hcc19.blk HY18.out (fun f => f))
      clear hE18 hc18 hcc19 HY18 hB16 hB17' hB18
      go_wp2_with fail
      have k1 := fun n => conv_str (hB16'.drewN n)
      have k2 := fun n => conv_str (hB17.drewN n)
      have k3 := fun n => conv_str (hB18'.drewN n)
      have k4 := fun n => conv_str ((HBY.out _ HY19.out).drewN n)
      have k5 := fun n => conv_str ((HBY9.out _ HY19.out).drewN n)
      have k6 := fun n => conv_str (hB19.drewN n)
      clear hB16' hB17 hB18' hB19
      go_quiet (fail)
      clear k1 k2 k3 k4 k5 k6
      go_wp2_with fail
      go_ret
      exact ⟨rfl, hc19.trans (Chg.drewN _ _ _)⟩
end Go.Proofs.Ythgejjlhfdegeaa
