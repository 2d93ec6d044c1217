/- LockFair: the second loop. -/
import Derived.Test.YtjnbbmchmkiodaaLkU
namespace Go.Proofs.Ytjnbbmchmkiodaa
open Go.RowKit Go.MapKept

set_option linter.unusedSimpArgs false
set_option linter.unusedVariables false
structure FairG (w wr : World) (tb n : Nat) (wv gv : Value) (m : TM) (L : TL) (ρ : Nat → Role) (hs : List Int) (q : List (Int × Int)) (gs : List Int) : Prop where
  tab : Tab wr tb m L ρ
  chg : Chg NoB w wr
  new : ∀ k, ρ k ≠ .none → w.heap.size ≤ k
  fi : FI m hs q
  eq : gs ++ q.map (·.1) = wants n
  want : Rw w wr ρ wv (wants n)
  got : Rw w wr ρ gv gs
  ap : apart wv gv
structure FairN (w wr : World) (wv gv : Value) (ρ : Nat → Role) (nv : Value) (nx : List Int) : Prop where
  row : Rw w wr ρ nv nx
  aw : apart wv nv
  ag : apart gv nv
theorem FairG.len {w wr : World} {tb n : Nat} {wv gv : Value} {m : TM} {L : TL} {ρ : Nat → Role} {hs : List Int} {q : List (Int × Int)} {gs : List Int} (h : FairG w wr tb n wv gv m L ρ hs q gs) : gs.length + q.length = n := by
  have := congrArg List.length h.eq
  simpa [wants_length] using this
def slen (v : Value) : Nat := match v with | .slice _ n _ => n | _ => 0
theorem apart_new {w wr wx : World} {ρ ρ' : Nat → Role} {u v : Value} {xs ys : List Int} (hu : Rw w wr ρ u ys) (hv : Rw wr wx ρ' v xs) : apart u v := fun a n c b m d h1 h2 e => by
  have := (hu.lt h1).1
  have := (hv.lt h2).2.1
  omega
theorem Rw.form {w wr : World} {ρ : Nat → Role} {v : Value} {xs : List Int} (h : Rw w wr ρ v xs) : ∃ a c, v = .slice a xs.length c ∧ wr.ownsRow 0 29 1 (.slice a xs.length c) xs.length (xs.map (Value.int .u64)) := by
  obtain ⟨a, c, h1, h2, -⟩ := h
  exact ⟨a, c, h1, h2⟩
theorem Rw.mono {w w1 wr : World} {ρ : Nat → Role} {v : Value} {xs : List Int} (h : Rw w1 wr ρ v xs) (hs : w.heap.size ≤ w1.heap.size) : Rw w wr ρ v xs := by
  obtain ⟨a, c, h1, h2, h3⟩ := h
  exact ⟨a, c, h1, h2, fun b e => ⟨Nat.le_trans hs (h3 b e).1, (h3 b e).2⟩⟩
noncomputable def fairLoop2 : Code := ((Try.f5.body.map loopsOf).getD []).getD 1 .skip

set_option maxHeartbeats 2000000 in
set_option maxRecDepth 100000 in
theorem fair_loop2 {w w0 : World} {tb n : Nat} {wv gv nv : Value} {m0 : TM} {L0 : TL} {ρ0 : Nat → Role} {q0 : List (Int × Int)} {nx0 gs0 : List Int} (hG : FairG w w0 tb n wv gv m0 L0 ρ0 nx0 q0 gs0) (hN : FairN w w0 wv gv ρ0 nv nx0) (h40 : n ≤ 40) (hl0 : nx0.length ≤ 41) (c0 c1 c2 c5 c8 c9 c10 c11 c12 c13 c14 c15 c16 c17 c18 c19 c20 c21 c22 c23 c24 c25 c26 c27 c28 c29 c30 c31 c32 c33 c34 c35 c36 c37 c38 c39 c40 c41 c42 c43 c44 c45 c46 c47 c48 c49 c50 c51 c52 c53 c54 c55 c56 c57 c58 c59 c60 c61 c62 c63 c64 c65 c66 c67 c68 c69 c70 c71 : Value) (Q : Exit → Act → World → Prop)
    (hexit : ∀ (u8 u9 u10 u47 u48 u49 u50 u51 u52 u53 u54 u55 u56 u57 u58 u59 u60 u61 u62 u63 u64 u65 u66 u67 u68 gv' nv' : Value) (wx : World) (ρ : Nat → Role), Rw w wx ρ wv (wants n) → Rw w wx ρ gv' (wants n) → Chg NoB w wx → Q (.exit 2) ⟨List.toArray (c0 :: c1 :: c2 :: .pointer (some ⟨tb, 0, none⟩) :: wv :: c5 :: gv' :: nv' :: u8 :: u9 :: u10 :: c11 :: c12 :: c13 :: c14 :: c15 :: c16 :: c17 :: c18 :: c19 :: c20 :: c21 :: c22 :: c23 :: c24 :: c25 :: c26 :: c27 :: c28 :: c29 :: c30 :: c31 :: c32 :: c33 :: c34 :: c35 :: c36 :: c37 :: c38 :: c39 :: c40 :: c41 :: c42 :: c43 :: c44 :: c45 :: c46 :: u47 :: u48 :: u49 :: u50 :: u51 :: u52 :: u53 :: u54 :: u55 :: u56 :: u57 :: u58 :: u59 :: u60 :: u61 :: u62 :: u63 :: u64 :: u65 :: u66 :: u67 :: u68 :: c69 :: c70 :: c71 :: []), []⟩ wx) : Code.wp Try.prog fairLoop2 Q ⟨List.toArray (c0 :: c1 :: c2 :: .pointer (some ⟨tb, 0, none⟩) :: wv :: c5 :: gv :: nv :: c8 :: c9 :: c10 :: c11 :: c12 :: c13 :: c14 :: c15 :: c16 :: c17 :: c18 :: c19 :: c20 :: c21 :: c22 :: c23 :: c24 :: c25 :: c26 :: c27 :: c28 :: c29 :: c30 :: c31 :: c32 :: c33 :: c34 :: c35 :: c36 :: c37 :: c38 :: c39 :: c40 :: c41 :: c42 :: c43 :: c44 :: c45 :: c46 :: c47 :: c48 :: c49 :: c50 :: c51 :: c52 :: c53 :: c54 :: c55 :: c56 :: c57 :: c58 :: c59 :: c60 :: c61 :: c62 :: c63 :: c64 :: c65 :: c66 :: c67 :: c68 :: c69 :: c70 :: c71 :: []), []⟩ w0 := by
  have HEX := hide hexit; have HG0 := hide hG; have HN0 := hide hN
  clear hexit hG hN
  conv => arg 2; whnf
  go_loopw [6, 7] (fun gv nv wr => ∃ (m : TM) (L : TL) (ρ : Nat → Role) (nx gs : List Int) (q : List (Int × Int)), nx.length ≤ 41 ∧ FairG w wr tb n wv gv m L ρ nx q gs ∧ FairN w wr wv gv ρ nv nx) (fun gv nv _ => slen nv + (n - slen gv))
  case atStart => exact ⟨m0, L0, ρ0, nx0, gs0, q0, hl0, HG0.out, HN0.out⟩
  case round =>
    clear HG0 HN0 hl0
    obtain ⟨m, L, ρ, nx, gs, q, hl41, hG, hN⟩ := hrel
    obtain ⟨na, nc, rfl, hnr⟩ := hN.row.form
    obtain ⟨ga, gc, rfl, hgr⟩ := hG.got.form
    have HG := hide hG; have HN := hide hN
    clear hG hN hnr hgr
    obtain ⟨wo, rfl⟩ : ∃ wo : World, wo = wr := ⟨_, rfl⟩
    by_cases hn0 : nx = []
    · subst hn0
      have hq := (HG.out.fi.pe rfl).1
      have he := HG.out.eq
      rw [hq] at he
      simp only [List.map_nil, List.append_nil] at he
      have HW := hide HG.out.want; have HC := hide HG.out.chg
      have HGT : Hid (Rw w wo ρ (.slice ga gs.length gc) (wants n)) := hide (by rw [← he]; exact HG.out.got)
      simp only [List.length_nil]
      clear hq he HG HN
      go_wp2_with fail
      exact HEX.out _ _ _ _ _ _ _ _ _ _ _ _ _ _ _ _ _ _ _ _ _ _ _ _ _ _ _ _ _ HW.out HGT.out HC.out
    · have hpos : (0 : Int) < (nx.length : Int) := by
        have : nx.length ≠ 0 := fun e => hn0 (List.eq_nil_of_length_eq_zero e)
        omega
      have hpos2 : 0 < nx.length := by omega
      have HPOS := hide hn0
      clear hn0
      go_wp2_with fail
      go_loopw [6, 8, 9] (fun gv mv v wr => ∃ (j : Nat) (m : TM) (L : TL) (ρ : Nat → Role) (gs2 ms : List Int) (q : List (Int × Int)), j ≤ nx.length ∧ v = .int .i64 j ∧ FairG w wr tb n wv gv m L ρ (nx.drop j ++ ms) q gs2 ∧ FairN w wr wv gv ρ (.slice na nx.length nc) nx ∧ FairN w wr wv gv ρ mv ms ∧ apart (.slice na nx.length nc) mv ∧ gs2 = gs ++ ms) (fun _ _ v _ => nx.length - (intOf v).toNat)
      case atStart => exact ⟨0, m, L, ρ, gs, [], q, Nat.zero_le _, rfl, by simpa using HG.out, HN.out, ⟨Rw.nil _ _ _, apart.nil _, apart.nil _⟩, apart.nil _, by simp⟩
      case round =>
        obtain ⟨j, m2, L2, ρ2, gs2, ms, q2, hj, rfl, hG2, hN2, hM2, hap, hgs⟩ := hrel
        have HLEN := hide hG2.len
        obtain ⟨ga2, gc2, rfl, hgr2⟩ := hG2.got.form
        obtain ⟨ma2, mc2, rfl, hmr2⟩ := hM2.row.form
        have hml : ms.length ≤ gs2.length := by rw [hgs]; simp
        have HML := hide hml
        have HG2 := hide hG2; have HN2 := hide hN2; have HM2 := hide hM2; have HAP := hide hap; have HGS := hide hgs
        clear hG2 hN2 hM2 hap hgs hgr2 hmr2 hml
        by_cases hlt : j < nx.length
        · obtain ⟨_, _, hv, hnr⟩ := HN2.out.row.form
          simp only [Value.slice.injEq, true_and] at hv
          obtain ⟨rfl, rfl⟩ := hv
          obtain ⟨g, rfl, hg, hcx⟩ := row_cells hnr (by omega)
          have k1 := hcx j (.int .u64 nx[j]) (by simp [hlt])
          have hdr : nx.drop j = nx[j] :: nx.drop (j + 1) := List.drop_eq_getElem_cons hlt
          have HDR := hide hdr
          clear hcx hnr hg hdr
          generalize nx[j] = o at k1 HDR
          have hj0 : (0 : Int) ≤ (j : Int) := by omega
          have hj1 : (j : Int) < (nx.length : Int) := by omega
          go_wp2_with fail
          refine (fair_free HG2.out.tab HG2.out.fi o (by rw [HDR.out]; simp) (by have := HLEN.out; omega)).mono ?_
          rintro e w4 ⟨k, v, m4, L4, ρ4, rfl, hl4, hT4, hF4, hO4⟩
          have her : (nx.drop j ++ ms).erase o = nx.drop (j + 1) ++ ms := by rw [HDR.out]; simp
          rw [her] at hF4
          have hole : (q2.take k).length ≤ q2.length := by rw [List.length_take]; exact Nat.min_le_right _ _
          have hqe : (q2.take k).map (·.1) ++ (q2.drop k).map (·.1) = q2.map (·.1) := by rw [← List.map_append, List.take_append_drop]
          have holl : ((q2.take k).map (·.1)).length ≤ q2.length := by simpa using hole
          generalize hout : (q2.take k).map (·.1) = outs at hl4 hF4 hqe holl
          clear hout hole her
          obtain ⟨la, lc, rfl, hlr⟩ := hl4.form
          have hc4 : Chg NoB w w4 := HG2.out.chg.trans' hO4.chg (fun k hk => .inr (HG2.out.new k hk))
          have hn4 : ∀ k, ρ4 k ≠ .none → w.heap.size ≤ k := fun k hk => (hO4.own k hk).elim (HG2.out.new k) (fun h => Nat.le_trans HG2.out.chg.size h)
          -- the rows behind the call
          have rW := HG2.out.want.go hO4
          have rG := HG2.out.got.go hO4
          have rN := HN2.out.row.go hO4
          have rM := HM2.out.row.go hO4
          have aWL := apart_new HG2.out.want hl4
          have aGL := apart_new HG2.out.got hl4
          have aNL := apart_new HN2.out.row hl4
          have aML := apart_new HM2.out.row hl4
          have rL := hl4.mono HG2.out.chg.size
          obtain ⟨_, _, hv, hgr⟩ := rG.form
          simp only [Value.slice.injEq, true_and] at hv
          obtain ⟨rfl, rfl⟩ := hv
          obtain ⟨iu, hiu, hzu0, hzu1, hzu2⟩ := info_parts infoU64
          have HIU := hide (And.intro hiu (And.intro hzu0 (And.intro hzu1 hzu2)))
          have HLS := hide (row_src hlr); have HGR := hide hgr
          have HALL := hide (And.intro rW (And.intro rG (And.intro rN (And.intro rM (And.intro rL (And.intro aWL (And.intro aGL (And.intro aNL aML))))))))
          have HT4 := hide hT4; have HF4 := hide hF4; have HC4 := hide hc4; have HN4 := hide hn4; have HQE := hide hqe
          have hgl : gs2.length + outs.length ≤ 40 := by have := HLEN.out; omega
          have hml2 : ms.length + outs.length ≤ 40 := by have := HML.out; omega
          clear hiu hzu0 hzu1 hzu2 hlr hgr rW rG rN rM rL aWL aGL aNL aML hT4 hF4 hc4 hn4 hqe hl4 hO4 holl k1
          go_upto_region 21 with (fail)
          go_wp2_with (at_builtin; refine wpList_app_own rfl (.tmp 62) (.tmp 63) 36 rfl 29 iu (.int .u64 0) 1 8 Try.underlying36 HIU.out.1 HIU.out.2.1 HIU.out.2.2.1 HIU.out.2.2.2 rfl (by decide) ga2 gs2.length gc2 _ rfl HGR.out la outs.length lc (outs.map (Value.int .u64)) rfl HLS.out.1 (by simp) HLS.out.2 (fun u hu => by obtain ⟨z, _, rfl⟩ := List.mem_map.1 hu; rfl) (by unfold maxLen; omega) (by omega) (Hid.out ?_))
          refine hide (fun a5 c5 w5 hr5 hc5 hn5 => ?_)
          have hn5' : ∀ k, (∃ b, a5 = some b ∧ b.block = k) → (∃ b, ga2 = some b ∧ b.block = k) ∨ w4.heap.size ≤ k := fun k hk => by
            obtain ⟨b, e1, e2⟩ := hk
            rw [← e2]
            simpa using hn5 b e1
          obtain ⟨rW, rG, rN, rM, rL, aWL, aGL, aNL, aML⟩ := HALL.out
          have hF : ∀ k, (∃ b, ga2 = some b ∧ b.block = k) → w.heap.size ≤ k ∧ ρ4 k = .none := fun k hk => by
            obtain ⟨b, h1, h2⟩ := hk
            subst h1
            have := rG.lt rfl
            rw [← h2]; exact this.2
          have hT5 := HT4.out.chg hc5 (fun k hk => (hF k hk).2)
          have hC5 : Chg NoB w w5 := HC4.out.trans' hc5 (fun k hk => .inr (hF k hk).1)
          have rG5 := rG.app (k := outs.length) (fun k hk => HT4.out.fresh hk) HC4.out.size rfl hr5 hn5'
          have rW5 := rW.other HG2.out.ap.symm hc5
          have rN5 := rN.other HN2.out.ag hc5
          have rM5 := rM.other HM2.out.ag hc5
          have rL5 := rL.other aGL hc5
          have aGW5 : apart (.slice a5 (gs2.length + outs.length) c5) wv := HG2.out.ap.symm.app rW hn5'
          have aGN5 : apart (.slice a5 (gs2.length + outs.length) c5) (.slice (some ⟨g, 0, none⟩) nx.length nc) := HN2.out.ag.app rN hn5'
          have aGM5 : apart (.slice a5 (gs2.length + outs.length) c5) (.slice ma2 ms.length mc2) := HM2.out.ag.app rM hn5'
          obtain ⟨_, _, hv, hmr⟩ := rM5.form
          simp only [Value.slice.injEq, true_and] at hv
          obtain ⟨rfl, rfl⟩ := hv
          obtain ⟨_, _, hv, hlr⟩ := rL5.form
          simp only [Value.slice.injEq, true_and] at hv
          obtain ⟨rfl, rfl⟩ := hv
          have HMR := hide hmr; have HLS5 := hide (row_src hlr)
          have HALL5 := hide (And.intro rW5 (And.intro rG5 (And.intro rN5 (And.intro rM5 (And.intro aGW5 (And.intro aGN5 aGM5))))))
          have HT5 := hide hT5; have HC5 := hide hC5
          clear hr5 hc5 hn5 hn5' rW rG rN rM rL aWL aGL aNL aML hF hT5 hC5 rG5 rW5 rN5 rM5 rL5 aGW5 aGN5 aGM5 hmr hlr HALL HT4 HC4 HLS HGR
          try go_frame
          go_upto_region 22 with (fail)
          go_wp2_with (at_builtin; refine wpList_app_own rfl (.tmp 65) (.tmp 66) 36 rfl 29 iu (.int .u64 0) 1 8 Try.underlying36 HIU.out.1 HIU.out.2.1 HIU.out.2.2.1 HIU.out.2.2.2 rfl (by decide) ma2 ms.length mc2 _ rfl HMR.out la outs.length lc (outs.map (Value.int .u64)) rfl HLS5.out.1 (by simp) HLS5.out.2 (fun u hu => by obtain ⟨z, _, rfl⟩ := List.mem_map.1 hu; rfl) (by unfold maxLen; omega) (by omega) (Hid.out ?_))
          refine hide (fun a6 c6 w6 hr6 hc6 hn6 => ?_)
          have hn6' : ∀ k, (∃ b, a6 = some b ∧ b.block = k) → (∃ b, ma2 = some b ∧ b.block = k) ∨ w5.heap.size ≤ k := fun k hk => by
            obtain ⟨b, e1, e2⟩ := hk
            rw [← e2]
            simpa using hn6 b e1
          obtain ⟨rW, rG, rN, rM, aGW, aGN, aGM⟩ := HALL5.out
          have hF : ∀ k, (∃ b, ma2 = some b ∧ b.block = k) → w.heap.size ≤ k ∧ ρ4 k = .none := fun k hk => by
            obtain ⟨b, h1, h2⟩ := hk
            subst h1
            have := rM.lt rfl
            rw [← h2]; exact this.2
          have hT6 := HT5.out.chg hc6 (fun k hk => (hF k hk).2)
          have hC6 : Chg NoB w w6 := HC5.out.trans' hc6 (fun k hk => .inr (hF k hk).1)
          have rM6 := rM.app (k := outs.length) (fun k hk => HT5.out.fresh hk) HC5.out.size rfl hr6 hn6'
          have rW6 := rW.other HM2.out.aw.symm hc6
          have rN6 := rN.other HAP.out.symm hc6
          have rG6 := rG.other aGM.symm hc6
          have aMW6 : apart (.slice a6 (ms.length + outs.length) c6) wv := HM2.out.aw.symm.app rW hn6'
          have aMN6 : apart (.slice a6 (ms.length + outs.length) c6) (.slice (some ⟨g, 0, none⟩) nx.length nc) := HAP.out.symm.app rN hn6'
          have aMG6 : apart (.slice a6 (ms.length + outs.length) c6) (.slice a5 (gs2.length + outs.length) c5) := aGM.symm.app rG hn6'
          have hfin : FairG w w6 tb n wv (.slice a5 (gs2.length + outs.length) c5) m4 L4 ρ4 (nx.drop (j + 1) ++ (ms ++ outs)) (q2.drop k) (gs2 ++ outs) :=
            ⟨hT6, hC6, HN4.out, by rw [← List.append_assoc]; exact HF4.out, by rw [List.append_assoc, HQE.out]; exact HG2.out.eq, rW6, rG6, aGW.symm⟩
          have hN6 : FairN w w6 wv (.slice a5 (gs2.length + outs.length) c5) ρ4 (.slice (some ⟨g, 0, none⟩) nx.length nc) nx := ⟨rN6, HN2.out.aw, aGN⟩
          have hM6 : FairN w w6 wv (.slice a5 (gs2.length + outs.length) c5) ρ4 (.slice a6 (ms.length + outs.length) c6) (ms ++ outs) := ⟨rM6, aMW6.symm, aMG6.symm⟩
          have HFIN := hide hfin; have HN6 := hide hN6; have HM6 := hide hM6; have HAP6 := hide aMN6.symm
          clear hr6 hc6 hn6 hn6' rW rG rN rM aGW aGN aGM hF hT6 hC6 rM6 rW6 rN6 rG6 aMW6 aMN6 aMG6 hfin hN6 hM6 HALL5 HT5 HC5 HLS5 HMR
          try go_frame
          go_wp2_with fail
          go_roundw
          case rel => exact ⟨j + 1, m4, L4, ρ4, gs2 ++ outs, ms ++ outs, q2.drop k, by omega, by go_num, HFIN.out, HN6.out, HM6.out, HAP6.out, by rw [HGS.out]; simp⟩
          case measure => simp [intOf]; omega
        · obtain rfl : j = nx.length := by omega
          have hj1 : ¬ (nx.length : Int) < (nx.length : Int) := by omega
          have hG3 := HG2.out
          rw [List.drop_length, List.nil_append] at hG3
          have HG3 := hide hG3
          have hn1 : nx.length ≠ 0 := fun e => HPOS.out (List.eq_nil_of_length_eq_zero e)
          have hgl := hG3.len
          have hgl2 := HG.out.len
          have hg1 : gs2.length = gs.length + ms.length := by rw [HGS.out]; simp
          have HM0 := hide (show ms.length + (n - gs2.length) < nx.length + (n - gs.length) by omega)
          have HM1 := hide (show ms.length ≤ 41 by omega)
          clear hG3 hn1 hgl hgl2 hg1
          go_wp2_with fail
          go_roundw
          case rel => exact ⟨m2, L2, ρ2, ms, gs2, q2, HM1.out, HG3.out, HM2.out⟩
          case measure => exact HM0.out
end Go.Proofs.Ytjnbbmchmkiodaa
