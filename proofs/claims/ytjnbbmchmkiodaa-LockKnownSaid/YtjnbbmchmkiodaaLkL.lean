/- Held, of an owner that holds one name. -/
import Derived.Test.YtjnbbmchmkiodaaLkJ
import Derived.Maps.OwnSet
namespace Go.Proofs.Ytjnbbmchmkiodaa
open Go.RowKit Go.MapKept Go.Shelf

theorem infoGr : (Try.prog.info? 33).map (fun i => (i.zero, i.size, i.bytes)) = some (some (.agg #[.string ⟨#[]⟩, .int .i64 0]), 2, 24) := by kernel_rfl

theorem mkGr (w : World) : (Instr.makeSlice 30 (.int .i64 0) (.int .i64 1)).run Try.prog w = .ok (.slice (some ⟨w.heap.size, 0, none⟩) 0 1) (w.alloc (.cells #[.string ⟨#[]⟩, .int .i64 0] 33)) := by
  kernel_rfl
set_option maxHeartbeats 1000000 in
set_option maxRecDepth 100000 in
theorem held_one {w : World} {tb : Nat} {m : TM} {L : TL} {ρ : Nat → Role} (h : Tab w tb m L ρ) (o : Int) (s : ByteArray) {f : ByteArray → Bool} (hf : m.names o = some f) (hfs : ∀ x, f x = true ↔ x = s) {p : PlM} (hp : m.pl s = some p) {md : Int} (hh : p.held o = some md) (hs : s.size ≤ maxLen) :
    Calls Try.prog 18 #[.pointer (some ⟨tb, 0, none⟩), .int .u64 o] w fun e w' => ∃ g, e = .returned (.slice (some ⟨g, 0, none⟩) 1 1) ∧ w'.cell? ⟨g, 0, none⟩ = some (.string s) ∧ w'.cell? ⟨g, 1, none⟩ = some (.int .i64 md) ∧ Chg NoB w w' := by
  have d2 : w.cell? ⟨tb, 2, none⟩ = some (.map (some L.tn)) := by rw [cell_of_row w _ _ _ _ _ h.blk]; rfl
  have hI := (h.nm o f hf).1
  have hown := one_owns hI s hfs hs
  have hlen : ∀ ty, (Builtin.len_ #[80] ty #[.map (some (L.nm o))]).run Try.prog w = .ok (.int .i64 1) w := fun ty => hown.len Try.underlying80 ty
  have hl : (namesF m L o).getD (.map none) = .map (some (L.nm o)) := by simp [namesF, hf]
  have hN := h.mn
  have hmk := mkGr
  have hca := Chg.alloc NoB w (.cells #[.string ⟨#[]⟩, .int .i64 0] 33)
  have d2a : (w.alloc (.cells #[.string ⟨#[]⟩, .int .i64 0] 33)).cell? ⟨tb, 2, none⟩ = some (.map (some L.tn)) := (hca.cell (heap_lt h.blk) (fun f => f)).trans d2
  have hNa := hN.chg hca (fun f => f)
  have HH := hide h; have HI := hide hI; have HL := hide hl; have HN := hide hN; have HNA := hide hNa
  clear h hI hl hN hown hca hNa
  go_enter Try.func18, Try.ntmps18
  go_wp2_with (first | (at_lookup; refine wpList_look1 rfl (.tmp 11) (.tmp 12) 64 rfl 29 80 (.map none) Try.underlying64 Try.underlying29 encU_key zeroMap L.tn rfl HN.out o rfl _ HL.out ?_) | (at_lookup; refine wpList_look1 rfl (.tmp 19) (.tmp 20) 64 rfl 29 80 (.map none) Try.underlying64 Try.underlying29 encU_key zeroMap L.tn rfl HNA.out o rfl _ HL.out ?_))
  refine (keys_calls _ _).mono ?_
  rintro e w2 ⟨rfl, hw2⟩
  have hc2 : Chg NoB w w2 := by rw [hw2]; exact (Chg.alloc _ _ _).trans (Chg.alloc _ _ _)
  have hbx : w2.cell? ⟨(w.alloc (.cells #[.string ⟨#[]⟩, .int .i64 0] 33)).heap.size, 0, none⟩ = some (.map (some (L.nm o))) := by rw [hw2, cell_of_row _ _ _ _ _ _ (heap_alloc_new' _ rfl _)]; rfl
  rw [World.size_alloc] at hbx
  have hgr : w2.heap[w.heap.size]? = some (.cells #[.string ⟨#[]⟩, .int .i64 0] 33 (0, 0)) := by rw [hw2]; exact alloc_blk (heap_alloc_new w _) _
  have hsz2 : w.heap.size < w2.heap.size := by rw [hw2]; simp; omega
  clear hw2
  have HSO := hide (sorted_one hbx (HI.out.chg hc2 (fun f => f)) s hfs hs)
  clear hbx hmk d2 d2a hlen
  go_wp2_with fail
  refine HSO.out.mono ?_
  rintro e w3 ⟨v, rfl, hr, hb⟩
  have hc3 : Chg NoB w w3 := hc2.trans (Chg.of_below hb (fun k hk _ => hk))
  have hgr3 := (Chg.of_below (F := NoB) hb (fun k hk _ => hk)).blk hgr (fun f => f)
  clear HSO hb hgr hc2
  rcases hr.2 with ⟨_, h0⟩ | ⟨g, cap, cur, rfl, hgb, hblk, h1, _, h3, h4⟩
  · cases h0
  · have hcur : cur[0]? = some (encS s) := by
      have : (cur.toList.take 1)[0]? = some (encS s) := by rw [h4]; rfl
      rw [List.getElem?_take] at this
      simpa using this
    have HROW := hide hblk; have HCUR := hide hcur; have HGR := hide hgr3
    clear hr h1 h3 h4 hblk hcur hgr3
    go_wp2_with fail
    go_loopw [5, 25] (fun ov v wr => (v = .int .i64 0 ∧ ov = .slice (some ⟨w.heap.size, 0, none⟩) 0 1 ∧ wr = w3) ∨ (v = .int .i64 1 ∧ ov = .slice (some ⟨w.heap.size, 0, none⟩) 1 1 ∧ Chg NoB w wr ∧ wr.cell? ⟨w.heap.size, 0, none⟩ = some (.string s) ∧ wr.cell? ⟨w.heap.size, 1, none⟩ = some (.int .i64 md))) (fun _ v _ => 1 - (intOf v).toNat)
    case atStart => exact .inl ⟨rfl, rfl, rfl⟩
    case round =>
      rcases hrel with ⟨rfl, rfl, rfl⟩ | ⟨rfl, rfl, hch, k0, k1⟩
      · have hT3 := HH.out.chg0 hc3
        have cs : wr.cell? ⟨g, 0, none⟩ = some (.string s) := by rw [cell_of_row wr _ _ _ _ _ HROW.out]; exact HCUR.out
        have c0 : wr.cell? ⟨tb, 0, none⟩ = some (.map (some L.tp)) := by rw [cell_of_row wr _ _ _ _ _ hT3.blk]; rfl
        have hg3 := (hT3.pl s p hp).1
        have p0 : wr.cell? ⟨(L.pl s).pb, 0, none⟩ = some (.map (some (L.pl s).hb)) := by rw [cell_of_row wr _ _ _ _ _ hg3.blk]; rfl
        have hl2 : (placesF m L s).getD (.pointer none) = .pointer (some ⟨(L.pl s).pb, 0, none⟩) := by simp [placesF, hp]
        have hv : (heldF p o).getD (.int .i64 0) = .int .i64 md := by simp [heldF, hh]
        have hP3 := hT3.mp
        obtain ⟨i0, hi, hz0, hz1, hz2⟩ := info_parts infoGr
        have HXC : Hid (∀ (j : Nat) (u : Value), [Value.string s, .int .i64 md][j]? = some u → (wr.alloc (.cells #[.string s, .int .i64 md] 33)).cell? ((⟨wr.heap.size, 0, none⟩ : Addr).add j) = some u) := hide (by intro j u hu; rcases j with _ | _ | j <;> simp at hu <;> subst hu <;> (simp only [Addr.add]; go_simp))
        have HONE : Hid (∀ u ∈ [Value.string s, .int .i64 md], u.oneCell' = true) := hide (by intro u hu; simp at hu; rcases hu with rfl | rfl <;> rfl)
        have HBA := hide (alloc_blk HGR.out (.cells #[.string s, .int .i64 md] 33))
        have HG3 := hide hg3; have HL2 := hide hl2; have HV := hide hv; have HP3 := hide hP3
        clear hT3 hg3 hl2 hv hP3
        go_wp2_with (first | (at_lookup; refine wpList_look1 rfl (.tmp 34) (.tmp 35) 62 rfl 9 67 (.pointer none) Try.underlying62 Try.underlying9 encS_key zeroPl L.tp rfl HP3.out s rfl _ HL2.out ?_) | (at_lookup; refine wpList_look1 rfl (.tmp 39) (.tmp 40) 68 rfl 29 3 (.int .i64 0) Try.underlying68 Try.underlying29 encU_key zeroInt (L.pl s).hb rfl HG3.out.held o rfl _ HV.out ?_) | (at_builtin; refine wpList_append_arg (wr.alloc (.cells #[.string s, .int .i64 md] 33)) rfl (.tmp 29) (.tmp 43) _ rfl 33 i0 _ 2 24 Try.underlying30 hi hz0 hz1 hz2 rfl (by decide) w.heap.size 0 0 1 [] rfl rfl (fun j u hu => by cases hu) ⟨wr.heap.size, 0, none⟩ 1 1 [.string s, .int .i64 md] rfl rfl HXC.out HONE.out (Hid.out ?_) (by decide) (by decide) (fun _ => Hid.out ?_) (fun hno => absurd hno (by decide))))
        · refine hide (fun _ j hj => ?_)
          have hj2 : j < 2 := hj
          refine ⟨?_, by simp [World.frozen?, HBA.out]⟩
          rw [cell_of_row _ _ _ _ _ _ HBA.out, Array.getElem?_eq_getElem (by simp; omega)]; rfl
        · refine hide ?_
          change wpList _ _ _ _ _ (((wr.alloc (.cells #[.string s, .int .i64 md] 33)).setCell ⟨w.heap.size, 0, none⟩ (.string s)).setCell ⟨w.heap.size, 1, none⟩ (.int .i64 md))
          have hb2 := setCell_blk (i := 1) (setCell_blk (i := 0) HBA.out (.string s)) (.int .i64 md)
          have hc5 : Chg NoB w (((wr.alloc (.cells #[.string s, .int .i64 md] 33)).setCell ⟨w.heap.size, 0, none⟩ (.string s)).setCell ⟨w.heap.size, 1, none⟩ (.int .i64 md)) :=
            (hc3.trans (Chg.alloc _ _ _)).trans' ((Chg.cell1 _ w.heap.size 0 _).trans (Chg.cell1 _ w.heap.size 1 _)) (fun i hi => .inr (by have : i = w.heap.size := hi; omega))
          generalize ((wr.alloc (.cells #[.string s, .int .i64 md] 33)).setCell ⟨w.heap.size, 0, none⟩ (.string s)).setCell ⟨w.heap.size, 1, none⟩ (.int .i64 md) = w5 at hb2 hc5 ⊢
          have k0 : w5.cell? ⟨w.heap.size, 0, none⟩ = some (.string s) := by rw [cell_of_row w5 _ _ _ _ _ hb2]; rfl
          have k1 : w5.cell? ⟨w.heap.size, 1, none⟩ = some (.int .i64 md) := by rw [cell_of_row w5 _ _ _ _ _ hb2]; rfl
          have HK := hide (And.intro k0 k1)
          clear hb2 k0 k1
          go_wp2_with fail
          go_roundw
          case rel => exact .inr ⟨by go_num, rfl, hc5, HK.out.1, HK.out.2⟩
          case measure => simp [intOf]
      · go_wp2_with fail
        go_ret
        exact ⟨_, rfl, k0, k1, hch⟩
end Go.Proofs.Ytjnbbmchmkiodaa
