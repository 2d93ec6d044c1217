/- DiskKnown: the walk. -/
import Derived.Test.YthgejjlhfdegeaaDiskJ
import Derived.Test.YthgejjlhfdegeaaKept
namespace Go.Proofs.Ythgejjlhfdegeaa
open Go.RowKit Go.MapKept

theorem own_step {w0 w w' : World} {F C F' C' : Nat → Prop} (hc : Chg NoB w0 w) (hF : ∀ k, F k → w0.heap.size ≤ k) (ho : Own w F C w' F' C') : Chg NoB w0 w' ∧ ∀ k, F' k → w0.heap.size ≤ k :=
  ⟨hc.trans' ho.chg (fun i hi => .inr (hF i hi)), fun k hk => (ho.f k hk).elim (hF k) (fun h => Nat.le_trans hc.size h)⟩
def km1 : DM := ((DM.fresh 4 10).write 1 ones512).1
def km2 : DM := (km1.append [7, 8]).1
def km3 : DM := km2.force.1
def km4 : DM := km3.setFuse 0
def km5 : DM := (km4.write 2 ones512).1
def half : List UInt8 := List.replicate 256 1 ++ List.replicate 256 0
theorem half_length : half.length = 512 := by kernel_rfl
theorem known1 : ((DM.fresh 4 10).write 1 ones512).2 = 0 := by kernel_rfl
theorem known2 : (km1.crash [1]).read 1 = (zeros512, 0) := by kernel_rfl
theorem known3 : (km1.crash [0]).read 1 = (ones512, 0) := by kernel_rfl
theorem known4 : (km1.append [7, 8]).2 = 0 := by kernel_rfl
theorem known5 : km2.force.2 = 0 := by kernel_rfl
theorem known6 : (km2.crash [1, 0]).logR = ([7], 0) := by kernel_rfl
theorem known7 : (km3.crash [0]).logR = ([7, 8], 0) := by kernel_rfl
theorem known8 : (km4.write 2 ones512).2 = 9 := by kernel_rfl
theorem known9 : km5.read 2 = ([], 9) := by kernel_rfl
theorem known10 : km5.dead = true := by kernel_rfl
theorem known11 : (km5.crash [0, 4]).read 2 = (half, 0) := by kernel_rfl
theorem known12 : km1.waiting.length = 1 ∧ km2.waiting.length = 1 ∧ km3.waiting.length = 1 ∧ km4.waiting.length = 1 ∧ km5.waiting.length = 1 := by refine ⟨?_, ?_, ?_, ?_, ?_⟩ <;> kernel_rfl

theorem km1_eq : ((DM.fresh 4 10).write 1 ones512).1 = km1 := by kernel_rfl
theorem km2_eq : (km1.append [7, 8]).1 = km2 := by kernel_rfl
theorem km3_eq : km2.force.1 = km3 := by kernel_rfl
theorem km4_eq : km3.setFuse 0 = km4 := by kernel_rfl
theorem km5_eq : (km4.write 2 ones512).1 = km5 := by kernel_rfl
theorem made1 (w : World) : BS (w.alloc (.cells #[.int .u8 1] 5)) (some ⟨w.heap.size, 0, none⟩) 1 1 [1] := BS.newblock w [1] rfl
theorem made0 (w : World) : BS (w.alloc (.cells #[.int .u8 0] 5)) (some ⟨w.heap.size, 0, none⟩) 1 1 [0] := BS.newblock w [0] rfl
theorem made78 (w : World) : BS (w.alloc (.cells #[.int .u8 7, .int .u8 8] 5)) (some ⟨w.heap.size, 0, none⟩) 2 2 [7, 8] := BS.newblock w [7, 8] rfl
theorem made10 (w : World) : BS (w.alloc (.cells #[.int .u8 1, .int .u8 0] 5)) (some ⟨w.heap.size, 0, none⟩) 2 2 [1, 0] := BS.newblock w [1, 0] rfl
theorem made04 (w : World) : BS (w.alloc (.cells #[.int .u8 0, .int .u8 4] 5)) (some ⟨w.heap.size, 0, none⟩) 2 2 [0, 4] := BS.newblock w [0, 4] rfl
attribute [irreducible] km1 km2 km3 km4 km5

section
variable {P : Program} {w : World} {ops : Array Oper} {o : Oper} {a : Act} {Q : Exit → Act → World → Prop}
/-- A step of a region that draws its order; the operation may be guarded. -/
theorem stepw_run {K : Act → World → Prop} {E : Prop} {v : Value} {w' : World} (hw : Region.wanted o (yielded ops a.tmps) = true) (h : (execOp a.eval o).run P w = .ok (.value v) w') (hK : K (a.put o.dst v) w') : if Region.wanted o (yielded ops a.tmps) = true then Oper.wp P o a w K Q else E := by
  rw [if_pos hw]
  unfold Oper.wp
  rw [h]
  exact hK
theorem stepw_app_own {K : Act → World → Prop} {E : Prop} (hw : Region.wanted o (yielded ops a.tmps) = true) (s x : Operand) (t : TypeId) (hop : o.op = .call { callee := .builtin .append, args := #[s, x], argTypes := #[t, t] })
    (e : TypeId) (i : TypeInfo) (z : Value) (size bytes : Nat) (ht : P.underlying t = some (.slice e)) (hi : P.info? e = some i) (hz : i.zero = some z)
    (hsize : i.size = size) (hby : i.bytes = bytes) (hzs : z.cells.size = size) (hsz : 0 < size)
    (sa : Option Addr) (n sc : Nat) (xs : List Value) (hs : a.eval s = .slice sa n sc) (hown : w.ownsRow 0 e size (.slice sa n sc) n xs)
    (xa : Option Addr) (m c : Nat) (news : List Value) (hx : a.eval x = .slice xa m c) (hnil : xa = none → m = 0 ∧ c = 0) (hl : news.length = m * size) (hnews : ∀ ad, xa = some ad → ∀ j u, news[j]? = some u → w.cell? (ad.add j) = some u) (h1 : ∀ u ∈ news, u.oneCell' = true)
    (h63 : n + m ≤ maxLen) (hbytes : (n + m) * bytes ≤ 140737488355328)
    (h : ∀ a' c' w', w'.ownsRow 0 e size (.slice a' (n + m) c') (n + m) (xs ++ news) → Chg (fun k => ∃ b, sa = some b ∧ b.block = k) w w' → (∀ k, (∃ b, a' = some b ∧ b.block = k) → (∃ b, sa = some b ∧ b.block = k) ∨ w.heap.size ≤ k) → K (a.put o.dst (.slice a' (n + m) c')) w') :
    if Region.wanted o (yielded ops a.tmps) = true then Oper.wp P o a w K Q else E := by
  obtain ⟨a', c', w', hr, r1, r2, r3⟩ := run_app_own (P := P) (o := o) (a := a) (w := w) s x t hop e i z size bytes ht hi hz hsize hby hzs hsz sa n sc xs hs hown xa m c news hx hnil hl hnews h1 h63 hbytes
  exact stepw_run hw hr (h a' c' w' r1 r2 r3)
theorem stepw_app_zeros {K : Act → World → Prop} {E : Prop} (hw : Region.wanted o (yielded ops a.tmps) = true) (s x : Operand) (t tn : TypeId) (hop : o.op = .call { callee := .builtin .append, args := #[s, x], argTypes := #[t, tn] })
    (e : TypeId) (i : TypeInfo) (z : Value) (bytes : Nat) (kn kq : IntKind) (ht : P.underlying t = some (.slice e)) (htn : P.underlying tn = some (.int kn)) (hi : P.info? e = some i) (hz : i.zero = some z)
    (hsize : i.size = 1) (hby : i.bytes = bytes) (hzs : z.cells = #[z]) (hz1 : z.oneCell' = true)
    (sa : Option Addr) (n sc : Nat) (xs : List Value) (hs : a.eval s = .slice sa n sc) (hown : w.ownsRow 0 e 1 (.slice sa n sc) n xs)
    (k : Nat) (hx : a.eval x = .int kq k) (h0 : 0 < k) (hbytes : (n + k) * bytes ≤ 140737488355328) (hb0 : 0 < bytes)
    (h : ∀ a' c' w', w'.ownsRow 0 e 1 (.slice a' (n + k) c') (n + k) (xs ++ zcells z k) → Chg (fun k => ∃ b, sa = some b ∧ b.block = k) w w' → (∀ k, (∃ b, a' = some b ∧ b.block = k) → (∃ b, sa = some b ∧ b.block = k) ∨ w.heap.size ≤ k) → K (a.put o.dst (.slice a' (n + k) c')) w') :
    if Region.wanted o (yielded ops a.tmps) = true then Oper.wp P o a w K Q else E := by
  obtain ⟨a', c', w', hr, r1, r2, r3⟩ := run_app_zeros (P := P) (o := o) (a := a) (w := w) s x t tn hop e i z bytes kn kq ht htn hi hz hsize hby hzs hz1 sa n sc xs hs hown k hx h0 hbytes hb0
  exact stepw_run hw hr (h a' c' w' r1 r2 r3)
end
theorem row_nil' {w : World} {e : TypeId} {g : Nat} (hg : w.heap[g]? = some (.cells #[] e (0, 0))) : w.ownsRow 0 e 1 (.slice (some ⟨g, 0, none⟩) 0 0) 0 [] :=
  ⟨rfl, .inr ⟨g, 0, #[], rfl, Nat.zero_le _, hg, Nat.le_refl _, by unfold maxLen; omega, rfl, rfl⟩⟩
def ones256 : List UInt8 := List.replicate 256 1
theorem ones256_length : ones256.length = 256 := by kernel_rfl
theorem ones256_take : (bcells ones512).toArray.toList.take 256 = bcells ones256 := by
  rw [List.toList_toArray]; unfold ones512 ones256 bcells; rw [← List.map_take, List.take_replicate]; rfl
theorem half_cells : bcells ones256 ++ zcells (.int .u8 0) 256 = bcells half := by
  rw [zcells_u8, ← bcells_append]; unfold half ones256; rfl
theorem ones_at {w : World} {g : Nat} (hg : w.heap[g]? = some (.cells (bcells ones512).toArray 5 (0, 0))) : BS w (some ⟨g, 0, none⟩) 256 512 ones256 :=
  BS.block hg ones256_length.symm (by omega) ones256_take

attribute [irreducible] half ones256

set_option linter.unusedSimpArgs false in
set_option maxHeartbeats 4000000 in
set_option maxRecDepth 100000 in
theorem known_walk (w : World) : Calls Try.prog 3 #[] w fun e w' => e = .returned (.bool true) ∧ Chg NoB w w' := by
  obtain ⟨iu, hu, hu0, hu1, hu2⟩ := info_parts infoU8
  obtain ⟨q1, q2, q3, q4, q5⟩ := known12
  have Q1 := hide q1; have Q2 := hide q2; have Q3 := hide q3; have Q4 := hide q4; have Q5 := hide q5
  clear q1 q2 q3 q4 q5
  go_enter Try.func3, Try.ntmps3
  go_wp2_with fail
  refine (awake_calls _).mono ?_
  rintro e w1 ⟨rfl, hc1⟩
  go_wp2_with fail
  refine (new_disk 4 10 _ (by omega) (by omega) (by omega)).mono ?_
  rintro e w2 ⟨rfl, hD, hcn, -⟩
  have hF2 : ∀ k, onlyNew w1.heap.size k → w.heap.size ≤ k := fun k hk => by have := hc1.size; rcases hk with h | h | h <;> omega
  have hc2 := hc1.trans hcn
  clear hcn hc1
  have HF2 := hide hF2; clear hF2
  go_wp2_with fail
  refine (ones_calls _).mono ?_
  rintro e w3 ⟨rfl, rfl⟩
  go_wp2_with fail
  refine ((hD.chg0 (Chg.alloc _ _ _)).write 1 _ _ _ ones512 (BS.newblock _ _ ones512_length.symm) (by simp [DM.fresh])).mono ?_
  rintro e w4 ⟨he, F4, C4, hD4, ho4⟩
  rw [known1] at he
  subst he
  rw [km1_eq] at hD4
  obtain ⟨hc4, hF4⟩ := own_step (hc2.trans (Chg.alloc _ _ _)) HF2.out ho4
  clear ho4 hD hc2 HF2
  have HF4 := hide hF4; clear hF4
  go_wp2_with fail
  refine ((hD4.chg0 (Chg.alloc _ _ _)).crash _ _ _ [1] (made1 _) (by rw [Q1.out]; omega)).mono ?_
  rintro e w5 ⟨xb, FX, CX, rfl, hX, hcc, -, -⟩
  have hcc := (Chg.alloc NoB w4 _).trans hcc
  have hD5 := hD4.chg0 hcc
  have hc5 := hc4.trans hcc
  clear hcc hD4 hc4
  go_wp2_with fail
  refine ((hD5.chg0 (Chg.alloc _ _ _)).crash _ _ _ [0] (made0 _) (by rw [Q1.out]; omega)).mono ?_
  rintro e w6 ⟨yb, FY, CY, rfl, hY, hcc, -, -⟩
  have hcc := (Chg.alloc NoB w5 _).trans hcc
  have hD6 := hD5.chg0 hcc
  have hX6 := hX.chg0 hcc
  have hc6 := hc5.trans hcc
  clear hcc hD5 hc5 hX
  go_wp2_with fail
  refine (hX6.read 1).mono ?_
  rw [known2]
  rintro e w7 (⟨_, rfl, rfl⟩ | ⟨hne, _⟩)
  rotate_left
  · exact absurd rfl hne
  simp only [zeros512_length]
  have hB7 : BS (w6.alloc (.cells (bcells zeros512).toArray 5)) (some ⟨w6.heap.size, 0, none⟩) 512 512 zeros512 := BS.newblock w6 zeros512 zeros512_length.symm
  have hcc := Chg.alloc NoB w6 (.cells (bcells zeros512).toArray 5)
  generalize w6.alloc (.cells (bcells zeros512).toArray 5) = w7 at hB7 hcc ⊢
  generalize w6.heap.size = ga at hB7 ⊢
  have hD7 := hD6.chg0 hcc
  have hY7 := hY.chg0 hcc
  have hc7 := hc6.trans hcc
  clear hcc hD6 hc6 hX6 hY
  go_wp2_with fail
  refine (hY7.read 1).mono ?_
  rw [known3]
  rintro e w8 (⟨_, rfl, rfl⟩ | ⟨hne, _⟩)
  rotate_left
  · exact absurd rfl hne
  simp only [ones512_length]
  have hB8 : BS (w7.alloc (.cells (bcells ones512).toArray 5)) (some ⟨w7.heap.size, 0, none⟩) 512 512 ones512 := BS.newblock w7 ones512 ones512_length.symm
  have hcc := Chg.alloc NoB w7 (.cells (bcells ones512).toArray 5)
  generalize w7.alloc (.cells (bcells ones512).toArray 5) = w8 at hB8 hcc ⊢
  generalize w7.heap.size = gb at hB8 ⊢
  have hD8 := hD7.chg0 hcc
  have hA8 := hB7.chg0 hcc
  have hc8 := hc7.trans hcc
  clear hcc hD7 hc7 hY7 hB7
  go_wp2_with fail
  have hmk : ∀ u : World, (Instr.makeSlice 28 (.int .i64 512) (.int .i64 512)).run Try.prog u = .ok (.slice (some ⟨u.heap.size, 0, none⟩) 512 512) (u.alloc (.cells (bcells zeros512).toArray 5)) := fun u => by
    have h := run_make (P := Try.prog) u 28 5 iu (.int .u8 0) Try.underlying28 hu hu0 .i64 .i64 512 512 (by omega) (Int.le_refl _) (by rw [hu2]; omega) (by omega)
    rw [made_zeros]
    simpa [hu1, Value.cells] using h
  have HKEEP := hide (fun w' (hc : Chg NoB w8 w') => And.intro (conv_str (hA8.chg0 hc)) (conv_str (hB8.chg0 hc)))
  have K1 : ∀ w', Chg NoB (w8.alloc (.cells (bcells zeros512).toArray 5)) w' → (convert 28 9 (.slice (some ⟨w8.heap.size, 0, none⟩) 512 512)).run Try.prog w' = .ok (.string (strOf zeros512)) w' := fun w' hc => conv_str ((BS.newblock w8 zeros512 zeros512_length.symm).chg0 hc)
  have k1 := K1 _ (Chg.drew _ _)
  have k1' := K1 _ (Chg.refl _ _)
  have k2 : (convert 28 9 (.slice (some ⟨w8.heap.size + 1, 0, none⟩) 512 512)).run Try.prog ((w8.alloc (.cells (bcells zeros512).toArray 5)).alloc (.cells (bcells ones512).toArray 5)).drew = .ok (.string (strOf ones512)) ((w8.alloc (.cells (bcells zeros512).toArray 5)).alloc (.cells (bcells ones512).toArray 5)).drew := by
    have := conv_str ((BS.newblock (w8.alloc (.cells (bcells zeros512).toArray 5)) ones512 ones512_length.symm).chg0 (Chg.drew _ _))
    rwa [show (w8.alloc (.cells (bcells zeros512).toArray 5)).heap.size = w8.heap.size + 1 by simp] at this
  have HD8 := hide hD8; have HB8 := hide hB8; have HA8 := hide hA8
  clear hD8 hB8 hA8 K1
  refine wp_region_held_drew (S := fun w' => (convert 28 9 (.slice (some ⟨ga, 0, none⟩) 512 512)).run Try.prog w' = .ok (.string (strOf zeros512)) w' ∧ (convert 28 9 (.slice (some ⟨gb, 0, none⟩) 512 512)).run Try.prog w' = .ok (.string (strOf ones512)) w') (by kernel_rfl) (HKEEP.out _ (Chg.drew _ _)) (fun hHeld => ?_)
  refine wpAnyH_take (i := 0) (v := ?v0) rfl (by kernel_rfl) (by kernel_rfl) (by kernel_rfl) (fun _ _ _ h => h) (Or.inl ⟨by rfl, ?y0⟩) hHeld ?r0
  case y0 => (intro w hSw; obtain ⟨hS1, hS2⟩ := hSw; go_simp; try with_reducible rfl)
  try simp only [Act.put, List.setIfInBounds_toArray, List.set_cons_zero, List.set_cons_succ, List.getElem_cons_zero, List.getElem_cons_succ, List.getElem_toArray]
  refine wpAnyH_take (i := 1) (v := ?v1) rfl (by kernel_rfl) (by kernel_rfl) (by kernel_rfl) (fun _ _ _ h => h) (Or.inl ⟨by rfl, ?y1⟩) hHeld ?r1
  case y1 => (intro w hSw; obtain ⟨hS1, hS2⟩ := hSw; go_simp; try with_reducible rfl)
  try simp only [Act.put, List.setIfInBounds_toArray, List.set_cons_zero, List.set_cons_succ, List.getElem_cons_zero, List.getElem_cons_succ, List.getElem_toArray]
  refine wpAnyH_take (i := 2) (v := ?v2) rfl (by kernel_rfl) (by kernel_rfl) (by kernel_rfl) (fun _ _ _ h => h) (Or.inl ⟨by rfl, ?y2⟩) hHeld ?r2
  case y2 => (intro w hSw; obtain ⟨hS1, hS2⟩ := hSw; go_simp; try with_reducible rfl)
  try simp only [Act.put, List.setIfInBounds_toArray, List.set_cons_zero, List.set_cons_succ, List.getElem_cons_zero, List.getElem_cons_succ, List.getElem_toArray]
  refine wpAnyH_take (i := 3) (v := ?v3) rfl (by kernel_rfl) (by kernel_rfl) (by kernel_rfl) (fun _ _ _ h => h) (Or.inl ⟨by rfl, ?y3⟩) hHeld ?r3
  case y3 => (intro w hSw; obtain ⟨hS1, hS2⟩ := hSw; go_simp; try with_reducible rfl)
  try simp only [Act.put, List.setIfInBounds_toArray, List.set_cons_zero, List.set_cons_succ, List.getElem_cons_zero, List.getElem_cons_succ, List.getElem_toArray]
  refine wpAnyH_take (i := 4) (v := ?v4) rfl (by kernel_rfl) (by kernel_rfl) (by kernel_rfl) (fun _ _ _ h => h) (Or.inl ⟨by rfl, ?y4⟩) hHeld ?r4
  case y4 => (intro w hSw; obtain ⟨hS1, hS2⟩ := hSw; go_simp; try with_reducible rfl)
  try simp only [Act.put, List.setIfInBounds_toArray, List.set_cons_zero, List.set_cons_succ, List.getElem_cons_zero, List.getElem_cons_succ, List.getElem_toArray]
  refine wpAnyH_ready (rs := [5]) (by kernel_rfl) (by simp) ?_
  refine AllReadyH.cons rfl (fun K hK => ?_) AllReadyH.nil
  go_simp
  refine hK.out _ _ (by first | exact HKEEP.out _ (Chg.drew _ _) | exact HKEEP.out _ ((Chg.alloc _ _ _).trans (Chg.drew _ _)) | exact HKEEP.out _ (((Chg.alloc _ _ _).trans (Chg.alloc _ _ _)).trans (Chg.drew _ _))) (fun hHeld => ?_)
  clear hK K
  try simp only [Act.put, List.setIfInBounds_toArray, List.set_cons_zero, List.set_cons_succ, List.getElem_cons_zero, List.getElem_cons_succ, List.getElem_toArray]
  refine wpAnyH_ready (rs := [6]) (by kernel_rfl) (by simp) ?_
  refine AllReadyH.cons rfl (fun K hK => ?_) AllReadyH.nil
  go_simp
  refine hK.out _ _ (by first | exact HKEEP.out _ (Chg.drew _ _) | exact HKEEP.out _ ((Chg.alloc _ _ _).trans (Chg.drew _ _)) | exact HKEEP.out _ (((Chg.alloc _ _ _).trans (Chg.alloc _ _ _)).trans (Chg.drew _ _))) (fun hHeld => ?_)
  clear hK K
  try simp only [Act.put, List.setIfInBounds_toArray, List.set_cons_zero, List.set_cons_succ, List.getElem_cons_zero, List.getElem_cons_succ, List.getElem_toArray]
  refine wpAnyH_take (i := 7) (v := ?v7) rfl (by kernel_rfl) (by kernel_rfl) (by kernel_rfl) (fun _ _ _ h => h) (Or.inl ⟨by rfl, ?y7⟩) hHeld ?r7
  case y7 => (intro w hSw; obtain ⟨hS1, hS2⟩ := hSw; go_simp; try with_reducible rfl)
  try simp only [Act.put, List.setIfInBounds_toArray, List.set_cons_zero, List.set_cons_succ, List.getElem_cons_zero, List.getElem_cons_succ, List.getElem_toArray]
  refine wpAnyH_take (i := 8) (v := ?v8) rfl (by kernel_rfl) (by kernel_rfl) (by kernel_rfl) (fun _ _ _ h => h) (Or.inl ⟨by rfl, ?y8⟩) hHeld ?r8
  case y8 => (intro w hSw; obtain ⟨hS1, hS2⟩ := hSw; go_simp; try with_reducible rfl)
  try simp only [Act.put, List.setIfInBounds_toArray, List.set_cons_zero, List.set_cons_succ, List.getElem_cons_zero, List.getElem_cons_succ, List.getElem_toArray]
  refine wpAnyH_take (i := 9) (v := ?v9) rfl (by kernel_rfl) (by kernel_rfl) (by kernel_rfl) (fun _ _ _ h => h) (Or.inl ⟨by rfl, ?y9⟩) hHeld ?r9
  case y9 => (intro w hSw; obtain ⟨hS1, hS2⟩ := hSw; go_simp; try with_reducible rfl)
  try simp only [Act.put, List.setIfInBounds_toArray, List.set_cons_zero, List.set_cons_succ, List.getElem_cons_zero, List.getElem_cons_succ, List.getElem_toArray]
  refine wpAnyH_take (i := 10) (v := ?v10) rfl (by kernel_rfl) (by kernel_rfl) (by kernel_rfl) (fun _ _ _ h => h) (Or.inl ⟨by rfl, ?y10⟩) hHeld ?r10
  case y10 => (intro w hSw; obtain ⟨hS1, hS2⟩ := hSw; go_simp; try with_reducible rfl)
  try simp only [Act.put, List.setIfInBounds_toArray, List.set_cons_zero, List.set_cons_succ, List.getElem_cons_zero, List.getElem_cons_succ, List.getElem_toArray]
  refine wpAnyH_take (i := 11) (v := ?v11) rfl (by kernel_rfl) (by kernel_rfl) (by kernel_rfl) (fun _ _ _ h => h) (Or.inl ⟨by rfl, ?y11⟩) hHeld ?r11
  case y11 => (intro w hSw; obtain ⟨hS1, hS2⟩ := hSw; go_simp; try with_reducible rfl)
  try simp only [Act.put, List.setIfInBounds_toArray, List.set_cons_zero, List.set_cons_succ, List.getElem_cons_zero, List.getElem_cons_succ, List.getElem_toArray]
  refine wpAnyH_take (i := 12) (v := ?v12) rfl (by kernel_rfl) (by kernel_rfl) (by kernel_rfl) (fun _ _ _ h => h) (Or.inl ⟨by rfl, ?y12⟩) hHeld ?r12
  case y12 => (intro w hSw; obtain ⟨hS1, hS2⟩ := hSw; go_simp; try with_reducible rfl)
  try simp only [Act.put, List.setIfInBounds_toArray, List.set_cons_zero, List.set_cons_succ, List.getElem_cons_zero, List.getElem_cons_succ, List.getElem_toArray]
  refine wpAnyH_take (i := 13) (v := ?v13) rfl (by kernel_rfl) (by kernel_rfl) (by kernel_rfl) (fun _ _ _ h => h) (Or.inl ⟨by rfl, ?y13⟩) hHeld ?r13
  case y13 => (intro w hSw; obtain ⟨hS1, hS2⟩ := hSw; go_simp; try with_reducible rfl)
  try simp only [Act.put, List.setIfInBounds_toArray, List.set_cons_zero, List.set_cons_succ, List.getElem_cons_zero, List.getElem_cons_succ, List.getElem_toArray]
  refine wpAnyH_take (i := 14) (v := ?v14) rfl (by kernel_rfl) (by kernel_rfl) (by kernel_rfl) (fun _ _ _ h => h) (Or.inl ⟨by rfl, ?y14⟩) hHeld ?r14
  case y14 => (intro w hSw; obtain ⟨hS1, hS2⟩ := hSw; go_simp; try with_reducible rfl)
  try simp only [Act.put, List.setIfInBounds_toArray, List.set_cons_zero, List.set_cons_succ, List.getElem_cons_zero, List.getElem_cons_succ, List.getElem_toArray]
  refine wpAnyH_take (i := 15) (v := ?v15) rfl (by kernel_rfl) (by kernel_rfl) (by kernel_rfl) (fun _ _ _ h => h) (Or.inl ⟨by rfl, ?y15⟩) hHeld ?r15
  case y15 => (intro w hSw; obtain ⟨hS1, hS2⟩ := hSw; go_simp; try with_reducible rfl)
  try simp only [Act.put, List.setIfInBounds_toArray, List.set_cons_zero, List.set_cons_succ, List.getElem_cons_zero, List.getElem_cons_succ, List.getElem_toArray]
  refine wpAnyH_ready (rs := [16]) (by kernel_rfl) (by simp) ?_
  refine AllReadyH.cons rfl (fun K hK => ?_) AllReadyH.nil
  go_simp
  refine (ones_calls _).mono ?_; rintro e w' ⟨rfl, rfl⟩
  refine hK.out _ _ (by first | exact HKEEP.out _ (Chg.drew _ _) | exact HKEEP.out _ ((Chg.alloc _ _ _).trans (Chg.drew _ _)) | exact HKEEP.out _ (((Chg.alloc _ _ _).trans (Chg.alloc _ _ _)).trans (Chg.drew _ _))) (fun hHeld => ?_)
  clear hK K
  try simp only [Act.put, List.setIfInBounds_toArray, List.set_cons_zero, List.set_cons_succ, List.getElem_cons_zero, List.getElem_cons_succ, List.getElem_toArray]
  refine wpAnyH_ready (rs := [17]) (by kernel_rfl) (by simp) ?_
  refine AllReadyH.cons rfl (fun K hK => ?_) AllReadyH.nil
  go_simp
  refine hK.out _ _ (by first | exact HKEEP.out _ (Chg.drew _ _) | exact HKEEP.out _ ((Chg.alloc _ _ _).trans (Chg.drew _ _)) | exact HKEEP.out _ (((Chg.alloc _ _ _).trans (Chg.alloc _ _ _)).trans (Chg.drew _ _))) (fun hHeld => ?_)
  clear hK K
  try simp only [Act.put, List.setIfInBounds_toArray, List.set_cons_zero, List.set_cons_succ, List.getElem_cons_zero, List.getElem_cons_succ, List.getElem_toArray]
  refine wpAnyH_take (i := 18) (v := ?v18) rfl (by kernel_rfl) (by kernel_rfl) (by kernel_rfl) (fun _ _ _ h => h) (Or.inl ⟨by rfl, ?y18⟩) hHeld ?r18
  case y18 => (intro w hSw; obtain ⟨hS1, hS2⟩ := hSw; go_simp; try with_reducible rfl)
  try simp only [Act.put, List.setIfInBounds_toArray, List.set_cons_zero, List.set_cons_succ, List.getElem_cons_zero, List.getElem_cons_succ, List.getElem_toArray]
  refine wpAnyH_take (i := 19) (v := ?v19) rfl (by kernel_rfl) (by kernel_rfl) (by kernel_rfl) (fun _ _ _ h => h) (Or.inl ⟨by rfl, ?y19⟩) hHeld ?r19
  case y19 => (intro w hSw; obtain ⟨hS1, hS2⟩ := hSw; go_simp; try with_reducible rfl)
  try simp only [Act.put, List.setIfInBounds_toArray, List.set_cons_zero, List.set_cons_succ, List.getElem_cons_zero, List.getElem_cons_succ, List.getElem_toArray]
  refine wpAnyH_done (by kernel_rfl) ?_ _
  have hcc : Chg NoB w8 ((w8.alloc (.cells (bcells zeros512).toArray 5)).alloc (.cells (bcells ones512).toArray 5)).drew := ((Chg.alloc _ _ _).trans (Chg.alloc _ _ _)).trans (Chg.drew _ _)
  generalize ((w8.alloc (.cells (bcells zeros512).toArray 5)).alloc (.cells (bcells ones512).toArray 5)).drew = w9 at hcc ⊢
  have hD9 := HD8.out.chg0 hcc
  have hc9 := hc8.trans hcc
  clear hcc HD8 hc8 HB8 HA8 k1 k1' k2 HKEEP
  go_wp2_with fail
  refine ((hD9.chg0 (Chg.alloc _ _ _)).append _ _ _ [7, 8] (made78 _) (fun b hb _ hf => by cases hb; have := hD9.lt _ hf; simp at this) (by unfold maxLen; omega)).mono ?_
  rintro e w10 ⟨he, F10, C10, hD10, ho10⟩
  rw [known4] at he
  subst he
  rw [km2_eq] at hD10
  obtain ⟨hc10, hF10⟩ := own_step (hc9.trans (Chg.alloc _ _ _)) HF4.out ho10
  have HF10 := hide hF10
  clear hF10 HF4 hD9 hc9 ho10
  go_wp2_with fail
  refine ((hD10.chg0 (Chg.alloc _ _ _)).crash _ _ _ [1, 0] (made10 _) (by rw [Q2.out]; omega)).mono ?_
  rintro e w11 ⟨xb2, FX2, CX2, rfl, hX, hcc, hFX, hCX⟩
  have hcc := (Chg.alloc NoB w10 _).trans hcc
  have hFX' : ∀ k, FX2 k → ¬ F10 k := fun k hk hf => by have := hFX k hk; have := hD10.lt k hf; simp at *; omega
  have hCX' : ∀ k, CX2 k → ¬ F10 k := fun k hk hf => (hCX k hk).elim (fun h => hD10.sep k h hf) (fun h => by have := hD10.lt k hf; simp at *; omega)
  have HFX := hide hFX'; have HCX := hide hCX'
  clear hFX hCX hFX' hCX'
  have hD11 := hD10.chg0 hcc
  have hc11 := hc10.trans hcc
  clear hcc hD10 hc10
  go_wp2_with fail
  refine (hD11.force).mono ?_
  rintro e w12 ⟨he, F12, C12, hD12, ho12⟩
  rw [known5] at he
  subst he
  rw [km3_eq] at hD12
  have hX12 := hX.chg ho12.chg HFX.out HCX.out
  obtain ⟨hc12, hF12⟩ := own_step hc11 HF10.out ho12
  have HF12 := hide hF12
  clear hF12 HF10 hD11 hc11 ho12 hX HFX HCX
  go_wp2_with fail
  refine ((hD12.chg0 (Chg.alloc _ _ _)).crash _ _ _ [0] (made0 _) (by rw [Q3.out]; omega)).mono ?_
  rintro e w13 ⟨yb2, FY2, CY2, rfl, hY, hcc, -, -⟩
  have hcc := (Chg.alloc NoB w12 _).trans hcc
  have hD13 := hD12.chg0 hcc
  have hX13 := hX12.chg0 hcc
  have hc13 := hc12.trans hcc
  clear hcc hD12 hc12 hX12
  go_wp2_with fail
  refine (hX13.log).mono ?_
  rw [known6]
  rintro e w14 (⟨_, rfl, rfl⟩ | ⟨hne, _⟩)
  rotate_left
  · exact absurd rfl hne
  have hB14 : BS (w13.alloc (.cells (bcells [7]).toArray 5)) (some ⟨w13.heap.size, 0, none⟩) 1 1 [7] := BS.newblock w13 [7] rfl
  have hcc := Chg.alloc NoB w13 (.cells (bcells [7]).toArray 5)
  simp only [List.length_cons, List.length_nil, Nat.zero_add]
  generalize w13.alloc (.cells (bcells [7]).toArray 5) = w14 at hB14 hcc ⊢
  generalize w13.heap.size = gp at hB14 ⊢
  have hD14 := hD13.chg0 hcc
  have hY14 := hY.chg0 hcc
  have hc14 := hc13.trans hcc
  clear hcc hD13 hc13 hX13 hY
  go_wp2_with fail
  refine (hY14.log).mono ?_
  rw [known7]
  rintro e w15 (⟨_, rfl, rfl⟩ | ⟨hne, _⟩)
  rotate_left
  · exact absurd rfl hne
  have hB15 : BS (w14.alloc (.cells (bcells [7, 8]).toArray 5)) (some ⟨w14.heap.size, 0, none⟩) 2 2 [7, 8] := BS.newblock w14 [7, 8] rfl
  have hcc := Chg.alloc NoB w14 (.cells (bcells [7, 8]).toArray 5)
  simp only [List.length_cons, List.length_nil, Nat.zero_add, Nat.reduceAdd]
  generalize w14.alloc (.cells (bcells [7, 8]).toArray 5) = w15 at hB15 hcc ⊢
  generalize w14.heap.size = gq at hB15 ⊢
  have hD15 := hD14.chg0 hcc
  have hP15 := hB14.chg0 hcc
  have hc15 := hc14.trans hcc
  clear hcc hD14 hc14 hY14 hB14
  have k1 : (convert 28 9 (.slice (some ⟨gp, 0, none⟩) 1 1)).run Try.prog w15 = .ok (.string ⟨#[7]⟩) w15 := conv_str hP15
  have k2 : (convert 28 9 (.slice (some ⟨gq, 0, none⟩) 2 2)).run Try.prog w15 = .ok (.string ⟨#[7, 8]⟩) w15 := conv_str hB15
  clear hP15 hB15
  go_wp2_with fail
  clear k1 k2
  refine (hD15.fuse 0 (by omega)).mono ?_
  rintro e w16 ⟨rfl, hD16, hcf⟩
  rw [km4_eq] at hD16
  have hc16 := hc15.trans' hcf (fun i hi => .inr (HF12.out i hi))
  clear hD15 hcf hc15
  go_wp2_with fail
  refine (ones_calls _).mono ?_
  rintro e w17 ⟨rfl, rfl⟩
  go_wp2_with fail
  refine ((hD16.chg0 (Chg.alloc _ _ _)).write 2 _ _ _ ones512 (BS.newblock _ _ ones512_length.symm) (by rw [Q4.out]; omega)).mono ?_
  rintro e w17 ⟨he, F17, C17, hD17, ho17⟩
  rw [known8] at he
  subst he
  rw [km5_eq] at hD17
  obtain ⟨hc17, -⟩ := own_step (hc16.trans (Chg.alloc _ _ _)) HF12.out ho17
  clear HF12 hD16 hc16 ho17
  go_wp2_with fail
  refine (hD17.read 2).mono ?_
  rw [known9]
  rintro e w18 (⟨hz, _⟩ | ⟨_, _, rfl, rfl⟩)
  · cases hz
  go_wp2_with fail
  refine ((hD17.chg0 (Chg.alloc _ _ _)).crash _ _ _ [0, 4] (made04 _) (by rw [Q5.out]; omega)).mono ?_
  rintro e w19 ⟨xb3, FX3, CX3, rfl, hX, hcc, -, -⟩
  have hcc := (Chg.alloc NoB w17 _).trans hcc
  have hD19 := hD17.chg0 hcc
  have hc19 := hc17.trans hcc
  clear hcc hD17 hc17
  go_wp2_with fail
  refine (hD19.dead).mono ?_
  rw [known10]
  rintro e w20 ⟨rfl, rfl⟩
  clear hD19
  go_wp2_with fail
  refine (hX.read 2).mono ?_
  rw [known11]
  rintro e w20 (⟨_, rfl, rfl⟩ | ⟨hne, _⟩)
  rotate_left
  · exact absurd rfl hne
  simp only [half_length]
  have hB20 : BS (w19.alloc (.cells (bcells half).toArray 5)) (some ⟨w19.heap.size, 0, none⟩) 512 512 half := BS.newblock w19 half half_length.symm
  have hcc := Chg.alloc NoB w19 (.cells (bcells half).toArray 5)
  generalize w19.alloc (.cells (bcells half).toArray 5) = w20 at hB20 hcc ⊢
  generalize w19.heap.size = ga2 at hB20 ⊢
  have hc20 := hc19.trans hcc
  clear hcc hc19 hX
  go_wp2_with fail
  have HKEEP := hide (fun w' (hc : Chg NoB w20 w') => conv_str (hB20.chg0 hc))
  clear hB20
  refine wp_region_held_drew (S := fun w' => (convert 28 9 (.slice (some ⟨ga2, 0, none⟩) 512 512)).run Try.prog w' = .ok (.string (strOf half)) w') (by kernel_rfl) (HKEEP.out _ (Chg.drew _ _)) (fun hHeld => ?_)
  refine wpAnyH_take (i := 0) (v := ?vb0) rfl (by kernel_rfl) (by kernel_rfl) (by kernel_rfl) (fun _ _ _ h => h) (Or.inl ⟨by rfl, ?yb0⟩) hHeld ?rb0
  case yb0 => (intro w hSw; (try dsimp only at hSw); go_simp; try with_reducible rfl)
  try simp only [Act.put, List.setIfInBounds_toArray, List.set_cons_zero, List.set_cons_succ, List.getElem_cons_zero, List.getElem_cons_succ, List.getElem_toArray]
  refine wpAnyH_take (i := 1) (v := ?vb1) rfl (by kernel_rfl) (by kernel_rfl) (by kernel_rfl) (fun _ _ _ h => h) (Or.inl ⟨by rfl, ?yb1⟩) hHeld ?rb1
  case yb1 => (intro w hSw; (try dsimp only at hSw); go_simp; try with_reducible rfl)
  try simp only [Act.put, List.setIfInBounds_toArray, List.set_cons_zero, List.set_cons_succ, List.getElem_cons_zero, List.getElem_cons_succ, List.getElem_toArray]
  refine wpAnyH_take (i := 2) (v := ?vb2) rfl (by kernel_rfl) (by kernel_rfl) (by kernel_rfl) (fun _ _ _ h => h) (Or.inl ⟨by rfl, ?yb2⟩) hHeld ?rb2
  case yb2 => (intro w hSw; (try dsimp only at hSw); go_simp; try with_reducible rfl)
  try simp only [Act.put, List.setIfInBounds_toArray, List.set_cons_zero, List.set_cons_succ, List.getElem_cons_zero, List.getElem_cons_succ, List.getElem_toArray]
  refine wpAnyH_take (i := 3) (v := ?vb3) rfl (by kernel_rfl) (by kernel_rfl) (by kernel_rfl) (fun _ _ _ h => h) (Or.inl ⟨by rfl, ?yb3⟩) hHeld ?rb3
  case yb3 => (intro w hSw; (try dsimp only at hSw); go_simp; try with_reducible rfl)
  try simp only [Act.put, List.setIfInBounds_toArray, List.set_cons_zero, List.set_cons_succ, List.getElem_cons_zero, List.getElem_cons_succ, List.getElem_toArray]
  refine wpAnyH_take (i := 4) (v := ?vb4) rfl (by kernel_rfl) (by kernel_rfl) (by kernel_rfl) (fun _ _ _ h => h) (Or.inl ⟨by rfl, ?yb4⟩) hHeld ?rb4
  case yb4 => (intro w hSw; (try dsimp only at hSw); go_simp; try with_reducible rfl)
  try simp only [Act.put, List.setIfInBounds_toArray, List.set_cons_zero, List.set_cons_succ, List.getElem_cons_zero, List.getElem_cons_succ, List.getElem_toArray]
  refine wpAnyH_ready (rs := [5, 6]) (by kernel_rfl) (by simp) ?_
  refine AllReadyH.cons rfl (fun K hK => ?_) (AllReadyH.cons rfl (fun K hK => ?_) AllReadyH.nil)
  · go_simp
    refine hK.out _ _ (HKEEP.out _ ((Chg.alloc _ _ _).trans (Chg.drew _ _))) (fun hHeld => ?_)
    clear hK K
    try simp only [Act.put, List.setIfInBounds_toArray, List.set_cons_zero, List.set_cons_succ, List.getElem_cons_zero, List.getElem_cons_succ, List.getElem_toArray]
    refine wpAnyH_ready (rs := [6]) (by kernel_rfl) (by simp) ?_
    refine AllReadyH.cons rfl (fun K hK => ?_) AllReadyH.nil
    go_simp
    refine (ones_calls _).mono ?_; rintro e w' ⟨rfl, hw'⟩
    have HCW : Hid (Chg NoB w20 w') := by rw [← hw']; exact ((Chg.alloc _ _ _).trans (Chg.drew _ _)).trans (Chg.alloc _ _ _)
    have HROW : Hid (w'.ownsRow 0 5 1 (.slice (some ⟨w20.heap.size, 0, none⟩) 0 0) 0 []) := by rw [← hw']; exact row_nil' (alloc_blk (w := (w20.alloc (.cells #[] 5)).drew) (heap_alloc_new w20 _) _)
    have HONE : Hid (BS w' (some ⟨w20.heap.size + 1, 0, none⟩) 256 512 ones256) := by rw [← hw']; exact ones_at (heap_alloc_new' _ (by simp) _)
    have HRLE : Hid (w20.heap.size ≤ w20.heap.size) := Nat.le_refl _
    clear hw'
    refine hK.out _ _ (HKEEP.out _ HCW.out) (fun hHeld => ?_)
    clear hK K
    try simp only [Act.put, List.setIfInBounds_toArray, List.set_cons_zero, List.set_cons_succ, List.getElem_cons_zero, List.getElem_cons_succ, List.getElem_toArray]
    try simp only [World.heap_drew, World.size_drew, World.size_alloc]
    refine wpAnyH_take (i := 7) (v := ?vc7) rfl (by kernel_rfl) (by kernel_rfl) (by kernel_rfl) (fun _ _ _ h => h) (Or.inl ⟨by rfl, ?yc7⟩) hHeld ?rc7
    case yc7 => (intro w hSw; (try dsimp only at hSw); go_simp; try with_reducible rfl)
    try simp only [Act.put, List.setIfInBounds_toArray, List.set_cons_zero, List.set_cons_succ, List.getElem_cons_zero, List.getElem_cons_succ, List.getElem_toArray]
    refine wpAnyH_ready (rs := [8]) (by kernel_rfl) (by simp) ?_
    refine AllReadyH.cons rfl (fun K hK => ?_) AllReadyH.nil
    refine stepw_app_own (by rfl) (.tmp 157) (.tmp 159) 28 rfl 5 iu (.int .u8 0) 1 1 Try.underlying28 hu hu0 hu1 hu2 rfl (by decide) (some ⟨w20.heap.size, 0, none⟩) 0 0 [] rfl HROW.out (some ⟨w20.heap.size + 1, 0, none⟩) 256 512 (bcells ones256) rfl (fun e => by cases e) (by rw [bcells_length, ones256_length]) HONE.out.cell (bcells_one _) (by unfold maxLen; omega) (by omega) (fun a8 c8 u8 hr8 hcg8 hat8 => ?_)
    have hat8' : ∀ k, (∃ b, a8 = some b ∧ b.block = k) → w20.heap.size ≤ k := fun k hk => by
      rcases hat8 k hk with ⟨b, hb, hbk⟩ | h
      · cases hb; rw [← hbk]; exact HRLE.out
      · exact Nat.le_trans HCW.out.size h
    have hcA := HCW.out.trans' hcg8 (fun i ⟨b, hb, hbi⟩ => .inr (by cases hb; rw [← hbi]; exact HRLE.out))
    refine hK.out _ _ (HKEEP.out _ hcA) (fun hHeld => ?_)
    clear hK K hcg8 hat8
    try simp only [Act.put, List.setIfInBounds_toArray, List.set_cons_zero, List.set_cons_succ, List.getElem_cons_zero, List.getElem_cons_succ, List.getElem_toArray]
    try simp only [Nat.zero_add]
    try simp only [Nat.zero_add] at hr8
    refine wpAnyH_ready (rs := [9]) (by kernel_rfl) (by simp) ?_
    refine AllReadyH.cons rfl (fun K hK => ?_) AllReadyH.nil
    refine stepw_app_zeros (by rfl) (.tmp 160) (.const (.int .i64 256)) 28 3 rfl 5 iu (.int .u8 0) 1 .i64 .i64 Try.underlying28 Try.underlying3 hu hu0 hu1 hu2 rfl rfl a8 256 c8 (bcells ones256) rfl hr8 256 rfl (by omega) (by omega) (by omega) (fun a9 c9 u9 hr9 hcg9 hat9 => ?_)
    have hcB := hcA.trans' hcg9 (fun i hi => .inr (hat8' i hi))
    refine hK.out _ _ (HKEEP.out _ hcB) (fun hHeld => ?_)
    clear hK K hcg9 hat9
    try simp only [Act.put, List.setIfInBounds_toArray, List.set_cons_zero, List.set_cons_succ, List.getElem_cons_zero, List.getElem_cons_succ, List.getElem_toArray]
    try simp only [Nat.reduceAdd]
    rw [half_cells] at hr9
    have hB9 : BS u9 a9 512 c9 half := BS.own hr9
    have k9 := conv_str hB9
    clear hr9 hB9 hr8
    refine wpAnyH_ready (rs := [10]) (by kernel_rfl) (by simp) ?_
    refine AllReadyH.cons rfl (fun K hK => ?_) AllReadyH.nil
    go_simp
    refine hK.out _ _ (HKEEP.out _ hcB) (fun hHeld => ?_)
    clear hK K
    try simp only [Act.put, List.setIfInBounds_toArray, List.set_cons_zero, List.set_cons_succ, List.getElem_cons_zero, List.getElem_cons_succ, List.getElem_toArray]
    refine wpAnyH_take (i := 11) (v := ?vd11) rfl (by kernel_rfl) (by kernel_rfl) (by kernel_rfl) (fun _ _ _ h => h) (Or.inl ⟨by rfl, ?yd11⟩) hHeld ?rd11
    case yd11 => (intro w hSw; (try dsimp only at hSw); go_simp; try with_reducible rfl)
    try simp only [Act.put, List.setIfInBounds_toArray, List.set_cons_zero, List.set_cons_succ, List.getElem_cons_zero, List.getElem_cons_succ, List.getElem_toArray]
    refine wpAnyH_take (i := 12) (v := ?vd12) rfl (by kernel_rfl) (by kernel_rfl) (by kernel_rfl) (fun _ _ _ h => h) (Or.inl ⟨by rfl, ?yd12⟩) hHeld ?rd12
    case yd12 => (intro w hSw; (try dsimp only at hSw); go_simp; try with_reducible rfl)
    try simp only [Act.put, List.setIfInBounds_toArray, List.set_cons_zero, List.set_cons_succ, List.getElem_cons_zero, List.getElem_cons_succ, List.getElem_toArray]
    refine wpAnyH_take (i := 13) (v := ?vd13) rfl (by kernel_rfl) (by kernel_rfl) (by kernel_rfl) (fun _ _ _ h => h) (Or.inl ⟨by rfl, ?yd13⟩) hHeld ?rd13
    case yd13 => (intro w hSw; (try dsimp only at hSw); go_simp; try with_reducible rfl)
    try simp only [Act.put, List.setIfInBounds_toArray, List.set_cons_zero, List.set_cons_succ, List.getElem_cons_zero, List.getElem_cons_succ, List.getElem_toArray]
    refine wpAnyH_done (by kernel_rfl) ?_ _
    go_wp2_with fail
    go_ret
    exact ⟨by simp, hc20.trans hcB⟩
  · go_simp
    refine (ones_calls _).mono ?_; rintro e w' ⟨rfl, hw'⟩
    have hcw : Chg NoB w20 w' := by rw [← hw']; exact (Chg.drew _ _).trans (Chg.alloc _ _ _)
    have hon : w'.heap[w20.heap.size]? = some (.cells (bcells ones512).toArray 5 (0, 0)) := by rw [← hw']; exact heap_alloc_new' _ rfl _
    have HON := hide hon; have HCW0 := hide hcw
    clear hw' hon hcw
    refine hK.out _ _ (HKEEP.out _ HCW0.out) (fun hHeld => ?_)
    clear hK K
    try simp only [Act.put, List.setIfInBounds_toArray, List.set_cons_zero, List.set_cons_succ, List.getElem_cons_zero, List.getElem_cons_succ, List.getElem_toArray]
    try simp only [World.heap_drew, World.size_drew, World.size_alloc]
    refine wpAnyH_take (i := 7) (v := ?ve7) rfl (by kernel_rfl) (by kernel_rfl) (by kernel_rfl) (fun _ _ _ h => h) (Or.inl ⟨by rfl, ?ye7⟩) hHeld ?re7
    case ye7 => (intro w hSw; (try dsimp only at hSw); go_simp; try with_reducible rfl)
    try simp only [Act.put, List.setIfInBounds_toArray, List.set_cons_zero, List.set_cons_succ, List.getElem_cons_zero, List.getElem_cons_succ, List.getElem_toArray]
    refine wpAnyH_ready (rs := [5]) (by kernel_rfl) (by simp) ?_
    refine AllReadyH.cons rfl (fun K hK => ?_) AllReadyH.nil
    go_simp
    have HCW : Hid (Chg NoB w20 (w'.alloc (.cells #[] 5))) := HCW0.out.trans (Chg.alloc _ _ _)
    have HROW : Hid ((w'.alloc (.cells #[] 5)).ownsRow 0 5 1 (.slice (some ⟨w'.heap.size, 0, none⟩) 0 0) 0 []) := row_nil' (heap_alloc_new w' _)
    have HONE : Hid (BS (w'.alloc (.cells #[] 5)) (some ⟨w20.heap.size, 0, none⟩) 256 512 ones256) := ones_at (alloc_blk HON.out _)
    have HRLE : Hid (w20.heap.size ≤ w'.heap.size) := HCW0.out.size
    generalize w'.alloc (.cells #[] 5) = w2' at HCW HROW HONE ⊢
    generalize w'.heap.size = ge at HROW HRLE ⊢
    clear HON HCW0
    refine hK.out _ _ (HKEEP.out _ HCW.out) (fun hHeld => ?_)
    clear hK K
    try simp only [Act.put, List.setIfInBounds_toArray, List.set_cons_zero, List.set_cons_succ, List.getElem_cons_zero, List.getElem_cons_succ, List.getElem_toArray]
    refine wpAnyH_ready (rs := [8]) (by kernel_rfl) (by simp) ?_
    refine AllReadyH.cons rfl (fun K hK => ?_) AllReadyH.nil
    refine stepw_app_own (by rfl) (.tmp 157) (.tmp 159) 28 rfl 5 iu (.int .u8 0) 1 1 Try.underlying28 hu hu0 hu1 hu2 rfl (by decide) (some ⟨ge, 0, none⟩) 0 0 [] rfl HROW.out (some ⟨w20.heap.size, 0, none⟩) 256 512 (bcells ones256) rfl (fun e => by cases e) (by rw [bcells_length, ones256_length]) HONE.out.cell (bcells_one _) (by unfold maxLen; omega) (by omega) (fun a8 c8 u8 hr8 hcg8 hat8 => ?_)
    have hat8' : ∀ k, (∃ b, a8 = some b ∧ b.block = k) → w20.heap.size ≤ k := fun k hk => by
      rcases hat8 k hk with ⟨b, hb, hbk⟩ | h
      · cases hb; rw [← hbk]; exact HRLE.out
      · exact Nat.le_trans HCW.out.size h
    have hcA := HCW.out.trans' hcg8 (fun i ⟨b, hb, hbi⟩ => .inr (by cases hb; rw [← hbi]; exact HRLE.out))
    refine hK.out _ _ (HKEEP.out _ hcA) (fun hHeld => ?_)
    clear hK K hcg8 hat8
    try simp only [Act.put, List.setIfInBounds_toArray, List.set_cons_zero, List.set_cons_succ, List.getElem_cons_zero, List.getElem_cons_succ, List.getElem_toArray]
    try simp only [Nat.zero_add]
    try simp only [Nat.zero_add] at hr8
    refine wpAnyH_ready (rs := [9]) (by kernel_rfl) (by simp) ?_
    refine AllReadyH.cons rfl (fun K hK => ?_) AllReadyH.nil
    refine stepw_app_zeros (by rfl) (.tmp 160) (.const (.int .i64 256)) 28 3 rfl 5 iu (.int .u8 0) 1 .i64 .i64 Try.underlying28 Try.underlying3 hu hu0 hu1 hu2 rfl rfl a8 256 c8 (bcells ones256) rfl hr8 256 rfl (by omega) (by omega) (by omega) (fun a9 c9 u9 hr9 hcg9 hat9 => ?_)
    have hcB := hcA.trans' hcg9 (fun i hi => .inr (hat8' i hi))
    refine hK.out _ _ (HKEEP.out _ hcB) (fun hHeld => ?_)
    clear hK K hcg9 hat9
    try simp only [Act.put, List.setIfInBounds_toArray, List.set_cons_zero, List.set_cons_succ, List.getElem_cons_zero, List.getElem_cons_succ, List.getElem_toArray]
    try simp only [Nat.reduceAdd]
    rw [half_cells] at hr9
    have hB9 : BS u9 a9 512 c9 half := BS.own hr9
    have k9 := conv_str hB9
    clear hr9 hB9 hr8
    refine wpAnyH_ready (rs := [10]) (by kernel_rfl) (by simp) ?_
    refine AllReadyH.cons rfl (fun K hK => ?_) AllReadyH.nil
    go_simp
    refine hK.out _ _ (HKEEP.out _ hcB) (fun hHeld => ?_)
    clear hK K
    try simp only [Act.put, List.setIfInBounds_toArray, List.set_cons_zero, List.set_cons_succ, List.getElem_cons_zero, List.getElem_cons_succ, List.getElem_toArray]
    refine wpAnyH_take (i := 11) (v := ?vf11) rfl (by kernel_rfl) (by kernel_rfl) (by kernel_rfl) (fun _ _ _ h => h) (Or.inl ⟨by rfl, ?yf11⟩) hHeld ?rf11
    case yf11 => (intro w hSw; (try dsimp only at hSw); go_simp; try with_reducible rfl)
    try simp only [Act.put, List.setIfInBounds_toArray, List.set_cons_zero, List.set_cons_succ, List.getElem_cons_zero, List.getElem_cons_succ, List.getElem_toArray]
    refine wpAnyH_take (i := 12) (v := ?vf12) rfl (by kernel_rfl) (by kernel_rfl) (by kernel_rfl) (fun _ _ _ h => h) (Or.inl ⟨by rfl, ?yf12⟩) hHeld ?rf12
    case yf12 => (intro w hSw; (try dsimp only at hSw); go_simp; try with_reducible rfl)
    try simp only [Act.put, List.setIfInBounds_toArray, List.set_cons_zero, List.set_cons_succ, List.getElem_cons_zero, List.getElem_cons_succ, List.getElem_toArray]
    refine wpAnyH_take (i := 13) (v := ?vf13) rfl (by kernel_rfl) (by kernel_rfl) (by kernel_rfl) (fun _ _ _ h => h) (Or.inl ⟨by rfl, ?yf13⟩) hHeld ?rf13
    case yf13 => (intro w hSw; (try dsimp only at hSw); go_simp; try with_reducible rfl)
    try simp only [Act.put, List.setIfInBounds_toArray, List.set_cons_zero, List.set_cons_succ, List.getElem_cons_zero, List.getElem_cons_succ, List.getElem_toArray]
    refine wpAnyH_done (by kernel_rfl) ?_ _
    go_wp2_with fail
    go_ret
    exact ⟨by simp, hc20.trans hcB⟩
end Go.Proofs.Ythgejjlhfdegeaa
