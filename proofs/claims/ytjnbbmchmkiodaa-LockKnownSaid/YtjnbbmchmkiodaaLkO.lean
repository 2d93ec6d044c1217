/- DeleteFunc over a queue. -/
import Derived.Test.YtjnbbmchmkiodaaLkN
namespace Go.Proofs.Ytjnbbmchmkiodaa
open Go.RowKit Go.MapKept

def keepO (o : Int) (q : List (Int × Int)) : List (Int × Int) := q.filter (fun x => !isO o x)
theorem keepO_snoc (o : Int) (q : List (Int × Int)) {j : Nat} {x : Int × Int} (hx : q[j]? = some x) : keepO o (q.take (j + 1)) = keepO o (q.take j) ++ (if isO o x = true then [] else [x]) := by
  have hj : j < q.length := (List.getElem?_eq_some_iff.1 hx).1
  rw [List.take_add_one, hx]
  simp only [keepO, List.filter_append, Option.toList_some]
  cases h : isO o x <;> simp [h]
theorem keepO_len (o : Int) (q : List (Int × Int)) (j : Nat) : (keepO o (q.take j)).length ≤ j := Nat.le_trans (List.length_filter_le _ _) (by simp; omega)

/-- The row while DeleteFunc goes on: j seen, the kept ones ahead. -/
structure DelS (w wr : World) (g off qc : Nat) (q : List (Int × Int)) (o : Int) (j : Nat) (cur : Array Value) : Prop where
  blk : wr.heap[g]? = some (.cells cur 77 (0, 0))
  fit : off + qc * 2 ≤ cur.size
  kept : ∀ t u, (qcells (keepO o (q.take j)))[t]? = some u → cur[off + t]? = some u
  rest : ∀ t u, j * 2 ≤ t → (qcells q)[t]? = some u → cur[off + t]? = some u
  chg : Chg (fun k => k = g) w wr

section
variable {P : Program} {ops : Array Oper} {rest : List Oper} {o : Oper} {a : Act} {Q : Exit → Act → World → Prop} {w : World}
/-- 'clear' of a slice of rows of two cells. -/
theorem wpList_clear2 (hg : o.guard = none) (s : Operand) (T e : TypeId) (hop : o.op = .call { callee := .builtin .clear, args := #[s], argTypes := #[T] }) (hT : P.underlying T = some (.slice e)) (z0 z1 : Value) (hz : ∀ w : World, (zeroValue e).run P w = .ok (.agg #[z0, z1]) w) (h0 : z0.oneCell' = true) (h1 : z1.oneCell' = true)
    (g off n c : Nat) (hs : a.eval s = .slice (some ⟨g, off, none⟩) n c) (cur : Array Value) (hb : w.heap[g]? = some (.cells cur e (0, 0))) (hfit : off + n * 2 ≤ cur.size)
    (h : ∀ cur' w', w'.heap[g]? = some (.cells cur' e (0, 0)) → cur'.size = cur.size → (∀ j, j < off → cur'[j]? = cur[j]?) → Chg (fun k => k = g) w w' → wpList P ops Q rest (a.put o.dst (.tuple #[])) w') :
    wpList P ops Q (o :: rest) a w := by
  by_cases hn : n = 0
  · subst hn
    refine wpList_plain hg fun K hK => ?_
    have hr : (Builtin.clear_ #[T] o.type #[.slice (some ⟨g, off, none⟩) 0 c]).run P w = .ok (.tuple #[]) w := by
      simp [Builtin.clear_, run_underlying hT]
    unfold Oper.wp execOp
    simp only [hop, resolve, invoke, builtin, Sem.run_bind, Sem.run_pure, Result.andThen_ok, List.map_toArray, List.map_cons, List.map_nil, hs, hr]
    exact hK _ _ (h cur w hb rfl (fun _ _ => rfl) (Chg.refl _ _))
  · have hzl : (Builtin.zeroCells #[z0, z1] n).toList.length = n * 2 := by simp [Builtin.zeroCells]
    have hz1 : ∀ v ∈ (Builtin.zeroCells #[z0, z1] n).toList, v.oneCell' = true := by
      intro v hv
      simp only [Builtin.zeroCells, Array.toList_map, List.mem_map] at hv
      obtain ⟨i, _, rfl⟩ := hv
      have : i % 2 = 0 ∨ i % 2 = 1 := by omega
      rcases this with h | h <;> simp [h, h0, h1]
    have hst := run_storeCells_at P g off e (Builtin.zeroCells #[z0, z1] n).toList 0 cur w hb (by rw [hzl]; omega) hz1
    have hr : (Builtin.clear_ #[T] o.type #[.slice (some ⟨g, off, none⟩) n c]).run P w = .ok (.tuple #[]) (w.setRow g (cur.toList.take (off + 0) ++ (Builtin.zeroCells #[z0, z1] n).toList ++ cur.toList.drop (off + 0 + (Builtin.zeroCells #[z0, z1] n).toList.length)).toArray) := by
      simp [Builtin.clear_, run_underlying hT, hz, hst, Value.cells]
    refine wpList_plain hg fun K hK => ?_
    unfold Oper.wp execOp
    simp only [hop, resolve, invoke, builtin, Sem.run_bind, Sem.run_pure, Result.andThen_ok, List.map_toArray, List.map_cons, List.map_nil, hs, hr]
    refine hK _ _ (h _ _ (setRow_heap w g cur _ e _ hb) ?_ ?_ (Chg.setRow (F := fun k => k = g) w rfl _))
    · simp [hzl]; omega
    · intro j hj
      simp only [Nat.add_zero]
      rw [List.getElem?_toArray, List.append_assoc, List.getElem?_append_left (by simp; omega), List.getElem?_take, if_pos hj, Array.getElem?_toList]
end

theorem zeroAsk (w : World) : (zeroValue 77).run Try.prog w = .ok (.agg #[.int .u64 0, .int .i64 0]) w := by kernel_rfl

def DelR (w : World) (qa : Option Addr) (qc : Nat) (q' : List (Int × Int)) (e : Ending) (w' : World) : Prop := e = .returned (.slice qa q'.length qc) ∧ QAt w' qa q'.length qc q' ∧ Chg (fun k => ∃ b, qa = some b ∧ b.block = k) w w'

set_option maxHeartbeats 1000000 in
set_option maxRecDepth 100000 in
theorem del_calls {w : World} {qa : Option Addr} {qc : Nat} {q : List (Int × Int)} (h : QAt w qa q.length qc q) (o : Int) (tc : Nat) (hc : w.cell? ⟨tc, 0, none⟩ = some (.int .u64 o)) (hfar : ∀ b, qa = some b → b.block ≠ tc) (hn : q.length ≤ 5000000000000) :
    Calls Try.prog 38 #[.slice qa q.length qc, .func (.func 39) #[] #[.pointer (some ⟨tc, 0, none⟩)]] w (DelR w qa qc (keepO o q)) := by
  have HI := hide (idxo_calls h o tc hc hn)
  cases hf : q.findIdx? (isO o) with
  | none =>
    have hx : idxO q o = -1 := by simp [idxO, hf]
    have hk : keepO o q = q := by
      rw [List.findIdx?_eq_none_iff] at hf
      exact List.filter_eq_self.2 (fun x hx => by simp [hf x hx])
    rw [hx] at HI
    have HQ := hide h; have HK := hide hk
    clear h hx hk hf hc hfar
    go_enter Try.func38, Try.ntmps38
    go_wp2_with fail
    refine HI.out.mono ?_
    rintro e w1 ⟨rfl, hc1⟩
    go_wp2_with fail
    go_ret
    rw [HK.out]
    exact ⟨rfl, HQ.out.chg hc1 (fun _ _ f => f), hc1.mono (fun _ f => f.elim)⟩
  | some k =>
    have hx : idxO q o = k := by simp [idxO, hf]
    rw [List.findIdx?_eq_some_iff_getElem] at hf
    obtain ⟨hkl, hkb, hka⟩ := hf
    obtain ⟨g, off, hqa, -, -⟩ := h.cells (List.getElem?_eq_getElem hkl)
    obtain ⟨cur0, -, hblk0, hfit0, hcell0⟩ := h.blk _ hqa
    simp only at hblk0 hfit0 hcell0
    have hne : g ≠ tc := hfar _ hqa
    have hcap := h.cap
    have hk0 : keepO o (q.take (k + 1)) = q.take k := by
      rw [keepO_snoc o q (List.getElem?_eq_getElem hkl), if_pos hkb, List.append_nil]
      refine List.filter_eq_self.2 (fun x hx => ?_)
      obtain ⟨j, hj, rfl⟩ := List.getElem_of_mem hx
      simp at hj
      have := hka j (by omega)
      simpa using this
    rw [hx] at HI
    subst hqa
    have hS0 : ∀ w1, Chg NoB w w1 → DelS w w1 g off qc q o (k + 1) cur0 := fun w1 hc1 => ⟨hc1.blk hblk0 (fun f => f), hfit0, fun t u hu => by
      rw [hk0] at hu
      refine hcell0 t u ?_
      have hq2 : qcells q = qcells (q.take k) ++ qcells (q.drop k) := by unfold qcells; rw [← List.flatMap_append, List.take_append_drop]
      rw [hq2, List.getElem?_append_left (List.getElem?_eq_some_iff.1 hu).1]; exact hu, fun t u _ hu => hcell0 t u hu, hc1.mono (fun _ f => f.elim)⟩
    have HS0 := hide hS0
    have hkl0 : (keepO o (q.take (k + 1))).length = k := by rw [hk0]; simp; omega
    have HKL := hide hkl0
    have HTC := hide hc
    clear hS0 hk0 hkb hka hx hcell0 hblk0 hc hfar h hkl0
    go_enter Try.func38, Try.ntmps38
    go_wp2_with fail
    refine HI.out.mono ?_
    rintro e w1 ⟨rfl, hc1⟩
    have hS1 := HS0.out w1 hc1
    have hk1 : ((k : Int) == -1) = false := by simp
    go_wp2_with fail
    go_loopw [5, 6] (fun iv jv wr => ∃ (i j : Nat) (cur : Array Value), i < j ∧ j ≤ q.length ∧ iv = .int .i64 i ∧ jv = .int .i64 j ∧ i = (keepO o (q.take j)).length ∧ DelS w wr g off qc q o j cur) (fun _ v _ => q.length - (intOf v).toNat)
    case atStart => exact ⟨k, k + 1, cur0, by omega, by omega, rfl, by go_num, HKL.out.symm, hS1⟩
    case round =>
      obtain ⟨i, j, cur, hij, hj, rfl, rfl, hil, hS⟩ := hrel
      have HIL := hide hil; clear hil
      by_cases hlt : j < q.length
      · have hx : q[j]? = some q[j] := List.getElem?_eq_getElem hlt
        have hs := keepO_snoc o q hx
        have hq := qcells_at hx
        have c1 : wr.cell? ⟨g, off + j * 2, none⟩ = some (.int .u64 q[j].1) := by rw [cell_of_row wr _ _ _ _ _ hS.blk]; exact hS.rest _ _ (Nat.le_refl _) hq.1
        have c2 : wr.cell? ⟨g, off + j * 2 + 1, none⟩ = some (.int .i64 q[j].2) := by rw [cell_of_row wr _ _ _ _ _ hS.blk]; exact hS.rest _ _ (by omega) hq.2
        have htc : wr.cell? ⟨tc, 0, none⟩ = some (.int .u64 o) := (hS.chg.cell (cell_some HTC.out).1 (fun e => hne (by have : tc = g := e; exact this.symm))).trans HTC.out
        generalize q[j] = x at *
        obtain ⟨ow, md⟩ := x
        simp only at c1 c2
        have HSN := hide hs; have HX := hide hx; have HST := hide hS
        clear hs hx hq hS
        have hca := Chg.alloc NoB wr (.cells #[.int .u64 ow, .int .i64 md] 77)
        have htc1 := (hca.cell (cell_some htc).1 (fun f => f)).trans htc
        have HTC1 := hide htc1; have HCA := hide hca
        clear htc htc1 hca
        have hlt' : (j : Int) < (q.length : Int) := by omega
        go_wp2_with fail
        refine (same_calls tc HTC1.out ow md).mono ?_
        rw [show (ow == o) = isO o (ow, md) from rfl]
        rintro e w2 ⟨rfl, hc2⟩
        have hcr : Chg NoB wr w2 := HCA.out.trans hc2
        cases hb : isO o (ow, md)
        · have hk2 : keepO o (q.take (j + 1)) = keepO o (q.take j) ++ [(ow, md)] := by rw [HSN.out, hb]; rfl
          have HK2 := hide hk2; clear hk2 hb
          have hblk2 := hcr.blk HST.out.blk (fun f => f)
          have hfit := HST.out.fit
          have hi1 : off + i * 2 < cur.size := by omega
          have hi2 : off + i * 2 + 1 < cur.size := by omega
          have d1 : w2.cell? ⟨g, off + i * 2, none⟩ = some cur[off + i * 2] := by rw [cell_of_row w2 _ _ _ _ _ hblk2]; exact Array.getElem?_eq_getElem hi1
          have d2 : w2.cell? ⟨g, off + i * 2 + 1, none⟩ = some cur[off + i * 2 + 1] := by rw [cell_of_row w2 _ _ _ _ _ hblk2]; exact Array.getElem?_eq_getElem hi2
          have f1 : w2.frozen? ⟨g, off + i * 2, none⟩ = false := by simp [World.frozen?, hblk2]
          have f2 : w2.frozen? ⟨g, off + i * 2 + 1, none⟩ = false := by simp [World.frozen?, hblk2]
          have b1 : w2.cell? ⟨wr.heap.size, 0, none⟩ = some (.int .u64 ow) := (hc2.cell (p := ⟨wr.heap.size, 0, none⟩) (by simp) (fun f => f)).trans (by go_simp)
          have b2 : w2.cell? ⟨wr.heap.size, 1, none⟩ = some (.int .i64 md) := (hc2.cell (p := ⟨wr.heap.size, 1, none⟩) (by simp) (fun f => f)).trans (by go_simp)
          generalize cur[off + i * 2] = v1 at d1
          generalize cur[off + i * 2 + 1] = v2 at d2
          have hilt : (i : Int) < (q.length : Int) := by omega
          have HB2 := hide hblk2; clear hblk2
          go_wp2_with fail
          go_roundw
          case rel =>
            have hl2 : (qcells (keepO o (q.take j))).length = i * 2 := by rw [qcells_length, ← HIL.out]
            refine ⟨i + 1, j + 1, (cur.setIfInBounds (off + i * 2) (.int .u64 ow)).setIfInBounds (off + i * 2 + 1) (.int .i64 md), by omega, by omega, by go_num, by go_num, by rw [HK2.out, List.length_append, ← HIL.out]; rfl, ⟨setCell_blk (i := off + i * 2 + 1) (setCell_blk (i := off + i * 2) HB2.out _) _, by simpa using hfit, fun t u hu => ?_, fun t u ht hu => ?_, HST.out.chg.trans ((hcr.mono (fun _ f => f.elim)).trans ((Chg.cell1 w2 g (off + i * 2) _).trans (Chg.cell1 _ g (off + i * 2 + 1) _)))⟩⟩
            · rw [HK2.out, qcells_snoc] at hu
              simp only [Array.getElem?_setIfInBounds]
              rcases Nat.lt_or_ge t (i * 2) with ht | ht
              · rw [List.getElem?_append_left (by omega)] at hu
                rw [if_neg (by omega), if_neg (by omega)]
                exact HST.out.kept t u hu
              · rw [List.getElem?_append_right (by omega), hl2] at hu
                have : t = i * 2 ∨ t = i * 2 + 1 := by
                  rcases Nat.lt_or_ge t (i * 2 + 2) with h | h
                  · omega
                  · rw [List.getElem?_eq_none (by simp; omega)] at hu; cases hu
                rcases this with rfl | rfl
                · rw [Nat.sub_self] at hu
                  simp only [List.getElem?_cons_zero] at hu
                  rw [if_neg (by omega), if_pos rfl, if_pos hi1]; exact hu
                · rw [Nat.add_sub_cancel_left] at hu
                  simp only [List.getElem?_cons_succ, List.getElem?_cons_zero] at hu
                  rw [if_pos (by omega), if_pos (by simpa using hi2)]; exact hu
            · simp only [Array.getElem?_setIfInBounds]
              rw [if_neg (by omega), if_neg (by omega)]
              exact HST.out.rest t u (by omega) hu
          case measure => simp [intOf]; omega
        · have hk2 : keepO o (q.take (j + 1)) = keepO o (q.take j) := by rw [HSN.out, hb, if_pos rfl, List.append_nil]
          have HK2 := hide hk2; clear hk2 hb
          go_wp2_with fail
          go_roundw
          case rel =>
            refine ⟨i, j + 1, cur, by omega, by omega, rfl, by go_num, by rw [HK2.out]; exact HIL.out, ⟨hcr.blk HST.out.blk (fun f => f), HST.out.fit, fun t u hu => HST.out.kept t u (by rw [← HK2.out]; exact hu), fun t u ht hu => HST.out.rest t u (by omega) hu, HST.out.chg.trans (hcr.mono (fun _ f => f.elim))⟩⟩
          case measure => simp [intOf]; omega
      · obtain rfl : j = q.length := by omega
        have hkq : keepO o (q.take q.length) = keepO o q := by rw [List.take_length]
        rw [hkq] at HIL
        have hik : ∀ t u, (qcells (keepO o q))[t]? = some u → cur[off + t]? = some u := fun t u hu => hS.kept t u (by rw [hkq]; exact hu)
        have HS := hide hS; have HKP := hide hik; clear hS hik hkq
        have hlt' : ¬ (q.length : Int) < (q.length : Int) := by omega
        have h1' : (i : Int) ≤ (q.length : Int) := by omega
        have h2' : (q.length : Int) ≤ (qc : Int) := by omega
        have h3' : (i : Int) ≤ (qc : Int) := by omega
        have h4' : ¬ i = qc := by omega
        have h5' : ¬ qc = i := by omega
        have h6' : ¬ qc - i = 0 := by omega
        have h7' : i < qc := by omega
        have HFIT : Hid (off + i * 2 + (q.length - i) * 2 ≤ cur.size) := hide (by have := HS.out.fit; omega)
        go_wp2_with (refine (wpList_clear2 rfl (.tmp 38) 69 77 rfl Try.underlying69 _ _ zeroAsk rfl rfl g (off + i * 2) (q.length - i) (qc - i) rfl cur HS.out.blk HFIT.out (Hid.out ?_)))
        refine hide (fun cur' w2 hb2 hs2 hk2 hc2 => ?_)
        have hq2 : QAt w2 (some ⟨g, off, none⟩) i qc (keepO o q) := ⟨HIL.out, by omega, (fun h => by cases h), fun b hb => by
          cases hb
          refine ⟨cur', rfl, hb2, by rw [hs2]; exact HS.out.fit, fun t u hu => ?_⟩
          have ht : t < i * 2 := by
            have := (List.getElem?_eq_some_iff.1 hu).1
            rw [qcells_length, ← HIL.out] at this; exact this
          rw [hk2 _ (show off + t < off + i * 2 by omega)]
          exact HKP.out t u hu⟩
        have hcw : Chg (fun k => ∃ b, some (⟨g, off, none⟩ : Addr) = some b ∧ b.block = k) w w2 := (HS.out.chg.trans hc2).mono (fun k hk => ⟨_, rfl, by have : k = g := hk; exact this.symm⟩)
        have HQ2 := hide hq2
        clear hb2 hs2 hk2 hc2 hq2
        go_wp2_with fail
        go_ret
        rw [DelR, ← HIL.out]
        exact ⟨rfl, HQ2.out, hcw⟩
end Go.Proofs.Ytjnbbmchmkiodaa
