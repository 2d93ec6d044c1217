/- Free's second loop: each touched name's queue is served; an empty place goes. -/
import Derived.Test.YtjnbbmchmkiodaaLkQ5
namespace Go.Proofs.Ytjnbbmchmkiodaa
open Go.RowKit Go.MapKept

set_option linter.unusedSimpArgs false
def qlen (m : TM) (x : ByteArray) : Nat := match m.pl x with | some p => p.queue.length | none => 0
theorem serve_len (x : ByteArray) : ∀ (q : List (Int × Int)) (m : TM), (serve x q m).2.length ≤ q.length
  | [], _ => Nat.le_refl _
  | (ow, md) :: r, m => by
    cases hp : m.pl x with
    | none => simp [serve, hp]
    | some p =>
      by_cases hg : goesP p ow md
      · rw [serve_cons x m hp ow md r hg]
        have := serve_len x r ((((m.setPl x { p with queue := r }).hold x { p with queue := r } ow md)).delWait ow)
        simp only [List.length_cons]; omega
      · rw [serve_stop x m hp ow md r hg]; simp
theorem serveAt_len (y : TM × List Int) (x : ByteArray) : (serveAt y x).2.length ≤ y.2.length + qlen y.1 x := by
  unfold serveAt qlen
  cases y.1.pl x with
  | none => simp
  | some p => simp only [List.length_append]; have := serve_len x p.queue y.1; omega
theorem serveAll_len : ∀ (ns : List ByteArray) (y : TM × List Int), ns.Nodup → (ns.foldl serveAt y).2.length ≤ y.2.length + (ns.map (qlen y.1)).sum
  | [], y, _ => by simp
  | s :: r, y, hn => by
    obtain ⟨h1, h2⟩ := List.nodup_cons.1 hn
    have ih := serveAll_len r (serveAt y s) h2
    have hm : r.map (qlen (serveAt y s).1) = r.map (qlen y.1) := List.map_congr_left fun t ht => by
      unfold qlen
      rw [serveAt_pl_other y s t (fun e => h1 (e ▸ ht))]
    have := serveAt_len y s
    rw [hm] at ih
    simp only [List.foldl_cons, List.map_cons, List.sum_cons]; omega
theorem sum_take (l : List Nat) (k : Nat) : (l.take k).sum ≤ l.sum := by
  have := congrArg List.sum (List.take_append_drop k l)
  rw [List.sum_append] at this; omega
theorem not_mem_take {α : Type} {l : List α} (hn : l.Nodup) {i : Nat} {x : α} (hx : l[i]? = some x) : x ∉ l.take i := fun hm => by
  obtain ⟨hi, rfl⟩ := List.getElem?_eq_some_iff.1 hx
  obtain ⟨j, hj, e⟩ := List.getElem_of_mem hm
  simp at hj
  rw [List.getElem_take] at e
  exact absurd e (List.pairwise_iff_getElem.1 hn j i (by omega) hi (by omega))
noncomputable def freeLoop2 : Code := ((Try.f19.body.map loopsOf).getD []).getD 1 .skip

set_option maxHeartbeats 2000000 in
set_option maxRecDepth 100000 in
theorem free_loop2 {w w0 : World} {tb : Nat} {y0 : TM × List Int} {L1 : TL} {ρ ρ1 : Nat → Role} {ns : List ByteArray} {na : Option Addr} {nc : Nat} {ov : Value} (hE : FrE w w0 tb y0 L1 ρ ρ1 ns na ov) (hnl : ns.length ≤ 5000000000000) (hnd : ns.Nodup)
    (hpl : ∀ x ∈ ns, ∃ p, y0.1.pl x = some p) (hsum : y0.2.length + (ns.map (qlen y0.1)).sum ≤ 5000000000000) (c1 c2 c3 c4 c5 c6 c7 c8 c9 c10 c11 c13 c14 c15 c16 c17 c18 c19 c20 c21 c22 c23 c24 c25 c26 c27 c28 c29 c30 c31 c32 c33 c34 c35 c36 c37 c38 c39 c40 c41 c42 c43 c44 c45 c46 c47 c48 c49 c50 c51 c52 c53 c54 c55 c56 c57 c58 c59 c60 c61 c62 c63 c64 c65 c66 c67 c68 c69 c70 c71 c72 c73 c74 c75 c76 c77 c78 c79 c83 c84 c85 c86 c87 c88 c89 c90 c91 c92 c93 c94 c95 c96 c97 c98 c99 c100 c101 c102 c103 c104 c105 c106 c107 c108 c109 c110 c111 c112 c113 c114 c115 c116 c117 c118 c119 c120 c121 c122 c123 c124 c125 c126 c127 c128 c129 c130 c131 c132 c133 c134 c135 c136 c137 c138 c139 c140 c141 c142 c143 c144 c145 c146 c147 c148 c149 c150 c151 c152 c153 c154 c155 c156 c157 c158 c159 c160 c161 c162 c163 c164 c165 c166 c167 c168 c169 c170 c171 c172 c173 : Value) (Q : Exit → Act → World → Prop)
    (hpan : ∀ c (a : Act) d v w, Q (.panic c) (a.put d v) w → Q (.panic c) a w) (hexit : ∀ (u14 u15 u16 u83 u84 u85 u86 u87 u88 u89 u90 u91 u92 u93 u94 u95 u96 u97 u98 u99 u100 u101 u102 u103 u104 u105 u106 u107 u108 u109 u110 u111 u112 u113 u114 u115 u116 u117 u118 u119 u120 u121 u122 u123 u124 u125 u126 u127 u128 u129 u130 u131 u132 u133 u134 u135 u136 u137 u138 u139 u140 u141 u142 u143 u144 u145 u146 u147 u148 u149 u150 u151 u152 u153 u154 u155 u156 u157 u158 u159 u160 u161 u162 u163 u164 u165 u166 u167 u168 u82 ov' : Value) (wx : World) (L' : TL) (ρ' : Nat → Role), FrE w wx tb (ns.foldl serveAt y0) L' ρ ρ' ns na ov' → Q (.exit 2) ⟨List.toArray (.pointer (some ⟨tb, 0, none⟩) :: c1 :: c2 :: c3 :: c4 :: c5 :: c6 :: c7 :: c8 :: c9 :: c10 :: c11 :: ov' :: c13 :: u14 :: u15 :: u16 :: c17 :: c18 :: c19 :: c20 :: c21 :: c22 :: c23 :: c24 :: c25 :: c26 :: c27 :: c28 :: c29 :: c30 :: c31 :: c32 :: c33 :: c34 :: c35 :: c36 :: c37 :: c38 :: c39 :: c40 :: c41 :: c42 :: c43 :: c44 :: c45 :: c46 :: c47 :: c48 :: c49 :: c50 :: c51 :: c52 :: c53 :: c54 :: c55 :: c56 :: c57 :: c58 :: c59 :: c60 :: c61 :: c62 :: c63 :: c64 :: c65 :: c66 :: c67 :: c68 :: c69 :: c70 :: c71 :: c72 :: c73 :: c74 :: c75 :: c76 :: c77 :: c78 :: c79 :: .slice na ns.length nc :: .int .i64 (ns.length : Int) :: u82 :: u83 :: u84 :: u85 :: u86 :: u87 :: u88 :: u89 :: u90 :: u91 :: u92 :: u93 :: u94 :: u95 :: u96 :: u97 :: u98 :: u99 :: u100 :: u101 :: u102 :: u103 :: u104 :: u105 :: u106 :: u107 :: u108 :: u109 :: u110 :: u111 :: u112 :: u113 :: u114 :: u115 :: u116 :: u117 :: u118 :: u119 :: u120 :: u121 :: u122 :: u123 :: u124 :: u125 :: u126 :: u127 :: u128 :: u129 :: u130 :: u131 :: u132 :: u133 :: u134 :: u135 :: u136 :: u137 :: u138 :: u139 :: u140 :: u141 :: u142 :: u143 :: u144 :: u145 :: u146 :: u147 :: u148 :: u149 :: u150 :: u151 :: u152 :: u153 :: u154 :: u155 :: u156 :: u157 :: u158 :: u159 :: u160 :: u161 :: u162 :: u163 :: u164 :: u165 :: u166 :: u167 :: u168 :: c169 :: c170 :: c171 :: c172 :: c173 :: []), []⟩ wx) : Code.wp Try.prog freeLoop2 Q ⟨List.toArray (.pointer (some ⟨tb, 0, none⟩) :: c1 :: c2 :: c3 :: c4 :: c5 :: c6 :: c7 :: c8 :: c9 :: c10 :: c11 :: ov :: c13 :: c14 :: c15 :: c16 :: c17 :: c18 :: c19 :: c20 :: c21 :: c22 :: c23 :: c24 :: c25 :: c26 :: c27 :: c28 :: c29 :: c30 :: c31 :: c32 :: c33 :: c34 :: c35 :: c36 :: c37 :: c38 :: c39 :: c40 :: c41 :: c42 :: c43 :: c44 :: c45 :: c46 :: c47 :: c48 :: c49 :: c50 :: c51 :: c52 :: c53 :: c54 :: c55 :: c56 :: c57 :: c58 :: c59 :: c60 :: c61 :: c62 :: c63 :: c64 :: c65 :: c66 :: c67 :: c68 :: c69 :: c70 :: c71 :: c72 :: c73 :: c74 :: c75 :: c76 :: c77 :: c78 :: c79 :: .slice na ns.length nc :: .int .i64 (ns.length : Int) :: .int .i64 0 :: c83 :: c84 :: c85 :: c86 :: c87 :: c88 :: c89 :: c90 :: c91 :: c92 :: c93 :: c94 :: c95 :: c96 :: c97 :: c98 :: c99 :: c100 :: c101 :: c102 :: c103 :: c104 :: c105 :: c106 :: c107 :: c108 :: c109 :: c110 :: c111 :: c112 :: c113 :: c114 :: c115 :: c116 :: c117 :: c118 :: c119 :: c120 :: c121 :: c122 :: c123 :: c124 :: c125 :: c126 :: c127 :: c128 :: c129 :: c130 :: c131 :: c132 :: c133 :: c134 :: c135 :: c136 :: c137 :: c138 :: c139 :: c140 :: c141 :: c142 :: c143 :: c144 :: c145 :: c146 :: c147 :: c148 :: c149 :: c150 :: c151 :: c152 :: c153 :: c154 :: c155 :: c156 :: c157 :: c158 :: c159 :: c160 :: c161 :: c162 :: c163 :: c164 :: c165 :: c166 :: c167 :: c168 :: c169 :: c170 :: c171 :: c172 :: c173 :: []), []⟩ w0 := by
  have HEX := hide hexit; have HPAN := hide hpan; have HND := hide hnd; have HPL := hide hpl; have HSUM := hide hsum; have HE0 := hide hE
  clear hexit hpan hnd hpl hsum hE
  conv => arg 2; whnf
  go_loopw [12, 82] (fun ov v wr => ∃ (i : Nat) (L1 : TL) (ρ1 : Nat → Role), i ≤ ns.length ∧ v = .int .i64 i ∧ FrE w wr tb ((ns.take i).foldl serveAt y0) L1 ρ ρ1 ns na ov) (fun _ v _ => ns.length - (intOf v).toNat)
  case atStart => exact ⟨0, L1, ρ1, Nat.zero_le _, rfl, HE0.out⟩
  case round =>
    obtain ⟨i, L2, ρ2, hi, rfl, hE⟩ := hrel
    have HE := hide hE; clear hE HE0
    by_cases hlt : i < ns.length
    · have hx : ns[i]? = some ns[i] := List.getElem?_eq_getElem hlt
      generalize ns[i] = x at hx
      obtain ⟨g, rfl, hg, hgr, hcx⟩ := HE.out.names i x hx
      have hxm : x ∈ ns := List.mem_of_getElem? hx
      obtain ⟨p, hp⟩ := HPL.out x hxm
      have hpx : ((ns.take i).foldl serveAt y0).1.pl x = some p := by
        rw [serveAll_pl x _ _ (not_mem_take HND.out hx)]; exact hp
      have hsn : (ns.take (i + 1)).foldl serveAt y0 = serveAt ((ns.take i).foldl serveAt y0) x := by
        rw [List.take_add_one, hx, Option.toList_some, List.foldl_append]; rfl
      have hbd : ((ns.take i).foldl serveAt y0).2.length + p.queue.length ≤ 5000000000000 := by
        have h1 := serveAll_len (ns.take i) y0 (HND.out.sublist (List.take_sublist _ _))
        have h2 := sum_take (ns.map (qlen y0.1)) (i + 1)
        rw [← List.map_take, List.take_add_one, hx, Option.toList_some, List.map_append, List.sum_append] at h2
        have h3 : qlen y0.1 x = p.queue.length := by simp [qlen, hp]
        simp only [List.map_cons, List.map_nil, List.sum_cons, List.sum_nil, h3] at h2
        have := HSUM.out
        omega
      have HSN := hide hsn; have HPX := hide hpx; have HBD := hide hbd
      clear hsn hpx hbd hp hxm hx
      generalize (ns.take i).foldl serveAt y0 = y at HE HPX HSN HBD
      have hT := HE.out.tab
      have c0 : wr.cell? ⟨tb, 0, none⟩ = some (.map (some L2.tp)) := by rw [cell_of_row wr _ _ _ _ _ hT.blk]; rfl
      have hl2 : (placesF y.1 L2 x).getD (.pointer none) = .pointer (some ⟨(L2.pl x).pb, 0, none⟩) := by simp [placesF, HPX.out]
      have HPM := hide hT.mp; have HL2 := hide hl2
      clear hT hl2 hg hgr
      have hlt' : (i : Int) < (ns.length : Int) := by omega
      go_wp2_with (at_lookup; refine wpList_look1 rfl (.tmp 89) (.tmp 90) 62 rfl 9 67 (.pointer none) Try.underlying62 Try.underlying9 encS_key zeroPl L2.tp rfl HPM.out x rfl _ HL2.out ?_)
      refine serve_loop _ HE.out HPX.out rfl HBD.out _ _ _ _ _ _ _ _ _ _ _ _ _ _ _ _ _ _ _ _ _ _ _ _ _ _ _ _ _ _ _ _ _ _ _ _ _ _ _ _ _ _ _ _ _ _ _ _ _ _ _ _ _ _ _ _ _ _ _ _ _ _ _ _ _ _ _ _ _ _ _ _ _ _ _ _ _ _ _ _ _ _ _ _ _ _ _ _ _ _ _ _ _ _ _ _ _ _ _ _ _ _ _ _ _ _ _ _ _ _ _ _ _ _ _ _ _ _ _ _ _ _ _ _ _ _ _ _ _ _ _ _ _ _ _ _ _ _ _ _ _ _ _ _ _ _ _ _ _ _ _ _ _ _ _ _ _ _ _ _ _ _ _ _ _ _ _ _ _ _ _ (fun c a d v w h => HPAN.out c a d v w h) ?_
      intro v0 v1 v2 v3 v4 v5 v6 v7 v8 v9 v10 v11 v12 v13 v14 v15 v16 v17 v18 v19 v20 v21 v22 v23 v24 v25 v26 v27 v28 v29 v30 v31 v32 v33 v34 v35 v36 v37 v38 v39 v40 v41 v42 v43 v44 v45 v46 v47 v48 v49 v50 v51 v52 v53 v54 v55 v56 v57 ov2 wx hS
      obtain ⟨L3, ρ3, p3, hE3, hp3, hpb3⟩ := hS.ex
      have g3 := (hE3.tab.pl x p3 hp3).1
      have hblk := g3.blk
      rw [hpb3] at hblk
      obtain ⟨n, hn0, hlen⟩ := len_of g3.held Try.underlying68
      have k0 : wx.cell? ⟨(L2.pl x).pb, 0, none⟩ = some (.map (some (L3.pl x).hb)) := by rw [cell_of_row wx _ _ _ _ _ hblk]; rfl
      have k1 : wx.cell? ⟨(L2.pl x).pb, 1, none⟩ = some (.slice (L3.pl x).qa p3.queue.length (L3.pl x).qc) := by rw [cell_of_row wx _ _ _ _ _ hblk]; rfl
      have hht : n = 0 ↔ ∀ k, p3.held k = none := by rw [hn0]; simp [heldF]
      have HE3 := hide hE3; have HP3 := hide hp3; have HHT := hide hht
      clear hE3 hp3 hpb3 g3 hblk hS hn0 hht HPM HL2 c0 hcx
      have hrel : ∀ (mz : TM) (wz : World) (L' : TL) (ρ' : Nat → Role), FrE w wz tb (mz, y.2 ++ (serve x p.queue y.1).2) L' ρ ρ' ns (some ⟨g, 0, none⟩) ov2 → mz = tidyAt x (serve x p.queue y.1).1 → FrE w wz tb ((ns.take (i + 1)).foldl serveAt y0) L' ρ ρ' ns (some ⟨g, 0, none⟩) ov2 := by
        rintro mz wz L' ρ' hz rfl
        rw [HSN.out]
        simpa only [serveAt, HPX.out] using hz
      have HREL := hide hrel; clear hrel
      by_cases hh : ∀ k, p3.held k = none
      · have hn : n = 0 := HHT.out.2 hh
        subst hn
        by_cases hq : p3.queue = []
        · rw [hq] at k1
          simp only [List.length_nil] at k1
          have ht : tidyAt x (serve x p.queue y.1).1 = (serve x p.queue y.1).1.delPlace x := by
            unfold tidyAt
            rw [HP3.out]
            simp only
            rw [if_pos ⟨hh, hq⟩]
          have c0 : wx.cell? ⟨tb, 0, none⟩ = some (.map (some L3.tp)) := by rw [cell_of_row wx _ _ _ _ _ HE3.out.tab.blk]; rfl
          have HM3 := hide HE3.out.tab.mp; have HTD := hide ht
          clear hh hq ht
          go_wp2_with (at_delete; refine wpList_del rfl (.tmp 166) (.tmp 167) 62 9 rfl 9 67 Try.underlying62 Try.underlying9 encS_inj encS_key L3.tp rfl HM3.out x rfl (Hid.out ?_))
          refine hide (fun w4 hM4 hc4 => ?_)
          try go_frame
          have hT4 := HE3.out.tab.delPlace hc4 hM4
          have hz := HREL.out _ _ _ _ (HE3.out.go hT4 ⟨hc4.mono (fun k hk => by have : k = L3.tp := hk; rw [this, HE3.out.tab.rp]; simp), fun _ h => .inl h⟩) HTD.out.symm
          have HZ := hide hz
          clear hT4 hz hM4 hc4
          go_wp2_with fail
          go_roundw
          case rel => exact ⟨i + 1, L3, ρ3, by omega, by go_num, HZ.out⟩
          case measure => simp [intOf]; omega
        · have hl : p3.queue.length ≠ 0 := fun e => hq (List.eq_nil_of_length_eq_zero e)
          have e0 : (((p3.queue.length : Nat) : Int) == 0) = false := by simp; exact hq
          have ht : tidyAt x (serve x p.queue y.1).1 = (serve x p.queue y.1).1 := by
            unfold tidyAt
            rw [HP3.out]
            simp only
            rw [if_neg (fun h => hq h.2)]
          have hz := HREL.out _ _ _ _ HE3.out ht.symm
          have HZ := hide hz
          clear hh hq hl ht hz
          go_wp2_with fail
          go_roundw
          case rel => exact ⟨i + 1, L3, ρ3, by omega, by go_num, HZ.out⟩
          case measure => simp [intOf]; omega
      · have hn : ¬ n = 0 := fun e => hh (HHT.out.1 e)
        have e0 : ((n : Int) == 0) = false := by simp; exact hn
        have ht : tidyAt x (serve x p.queue y.1).1 = (serve x p.queue y.1).1 := by
          unfold tidyAt
          rw [HP3.out]
          simp only
          rw [if_neg (fun h => hh h.1)]
        have hz := HREL.out _ _ _ _ HE3.out ht.symm
        have HZ := hide hz
        clear hh hn ht hz
        go_wp2_with fail
        go_roundw
        case rel => exact ⟨i + 1, L3, ρ3, by omega, by go_num, HZ.out⟩
        case measure => simp [intOf]; omega
    · obtain rfl : i = ns.length := by omega
      have hE := HE.out
      rw [List.take_length] at hE
      have HE1 := hide hE
      have hlt' : ¬ (ns.length : Int) < (ns.length : Int) := by omega
      clear hE HE
      go_wp2_with fail
      exact HEX.out _ _ _ _ _ _ _ _ _ _ _ _ _ _ _ _ _ _ _ _ _ _ _ _ _ _ _ _ _ _ _ _ _ _ _ _ _ _ _ _ _ _ _ _ _ _ _ _ _ _ _ _ _ _ _ _ _ _ _ _ _ _ _ _ _ _ _ _ _ _ _ _ _ _ _ _ _ _ _ _ _ _ _ _ _ _ _ _ _ _ _ _ _ _ HE1.out
end Go.Proofs.Ytjnbbmchmkiodaa
