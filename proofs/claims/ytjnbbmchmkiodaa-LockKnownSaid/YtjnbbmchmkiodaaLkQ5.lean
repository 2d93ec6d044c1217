/- Free's inner loop: the head of a queue is served as long as it goes. -/
import Derived.Test.YtjnbbmchmkiodaaLkQ4
import Derived.Deep.QuietTactic
import Derived.BigQuiet
import Derived.Test.YtjnbbmchmkiodaaHeld
namespace Go.Proofs.Ytjnbbmchmkiodaa
open Go.RowKit Go.MapKept

set_option linter.unusedSimpArgs false
/-- What the loop's rounds keep. -/
structure SvR (w wx : World) (tb pb : Nat) (x : ByteArray) (y : TM × List Int) (p : PlM) (ρ : Nat → Role) (ns : List ByteArray) (na : Option Addr) (ov : Value) (q : List (Int × Int)) : Prop where
  ex : ∃ mm out L1 ρ1 p1, FrE w wx tb (mm, out) L1 ρ ρ1 ns na ov ∧ mm.pl x = some p1 ∧ p1.queue = q ∧ (L1.pl x).pb = pb ∧ (serve x p.queue y.1).1 = (serve x q mm).1 ∧ y.2 ++ (serve x p.queue y.1).2 = out ++ (serve x q mm).2 ∧ out.length + q.length = y.2.length + p.queue.length
/-- .. and what its end leaves. -/
structure SvE (w wx : World) (tb pb : Nat) (x : ByteArray) (y : TM × List Int) (p : PlM) (ρ : Nat → Role) (ns : List ByteArray) (na : Option Addr) (ov : Value) : Prop where
  ex : ∃ L1 ρ1 p1, FrE w wx tb ((serve x p.queue y.1).1, y.2 ++ (serve x p.queue y.1).2) L1 ρ ρ1 ns na ov ∧ (serve x p.queue y.1).1.pl x = some p1 ∧ (L1.pl x).pb = pb

theorem infoU64 : (Try.prog.info? 29).map (fun i => (i.zero, i.size, i.bytes)) = some (some (.int .u64 0), 1, 8) := by kernel_rfl
set_option maxHeartbeats 2000000 in
set_option maxRecDepth 100000 in
theorem serve_loop {w w0 : World} {tb pb : Nat} {x : ByteArray} {y : TM × List Int} {p : PlM} {L1 : TL} {ρ ρ1 : Nat → Role} {ns : List ByteArray} {na : Option Addr} (ov : Value)
    (hE : FrE w w0 tb y L1 ρ ρ1 ns na ov) (hp : y.1.pl x = some p) (hpb : (L1.pl x).pb = pb) (hN : y.2.length + p.queue.length ≤ 5000000000000) (c1 c2 c3 c4 c5 c6 c7 c8 c9 c10 c11 c13 c16 c17 c18 c19 c20 c21 c22 c23 c24 c25 c26 c27 c28 c29 c30 c31 c32 c33 c34 c35 c36 c37 c38 c39 c40 c41 c42 c43 c44 c45 c46 c47 c48 c49 c50 c51 c52 c53 c54 c55 c56 c57 c58 c59 c60 c61 c62 c63 c64 c65 c66 c67 c68 c69 c70 c71 c72 c73 c74 c75 c76 c77 c78 c79 c80 c81 c82 c83 c84 c85 c86 c87 c88 c89 c90 c91 c92 c93 c94 c95 c96 c97 c98 c99 c100 c101 c102 c103 c104 c105 c106 c107 c108 c109 c110 c111 c112 c113 c114 c115 c116 c117 c118 c119 c120 c121 c122 c123 c124 c125 c126 c127 c128 c129 c130 c131 c132 c133 c134 c135 c136 c137 c138 c139 c140 c141 c142 c143 c144 c145 c146 c147 c148 c149 c150 c151 c152 c153 c154 c155 c156 c157 c158 c159 c160 c161 c162 c163 c164 c165 c166 c167 c168 c169 c170 c171 c172 c173 : Value) (Q : Exit → Act → World → Prop)
    (hpan : ∀ c (a : Act) d v w, Q (.panic c) (a.put d v) w → Q (.panic c) a w) (hexit : ∀ (u16 u92 u93 u94 u95 u96 u97 u98 u99 u100 u101 u102 u103 u104 u105 u106 u107 u108 u109 u110 u111 u112 u113 u114 u115 u116 u117 u118 u119 u120 u121 u122 u123 u124 u125 u126 u127 u128 u129 u130 u131 u132 u133 u134 u135 u136 u137 u138 u139 u140 u141 u142 u143 u144 u145 u146 u147 u148 ov' : Value) (wx : World), SvE w wx tb pb x y p ρ ns na ov' → Q (.exit 4) ⟨List.toArray (.pointer (some ⟨tb, 0, none⟩) :: c1 :: c2 :: c3 :: c4 :: c5 :: c6 :: c7 :: c8 :: c9 :: c10 :: c11 :: ov' :: c13 :: .string x :: .pointer (some ⟨pb, 0, none⟩) :: u16 :: c17 :: c18 :: c19 :: c20 :: c21 :: c22 :: c23 :: c24 :: c25 :: c26 :: c27 :: c28 :: c29 :: c30 :: c31 :: c32 :: c33 :: c34 :: c35 :: c36 :: c37 :: c38 :: c39 :: c40 :: c41 :: c42 :: c43 :: c44 :: c45 :: c46 :: c47 :: c48 :: c49 :: c50 :: c51 :: c52 :: c53 :: c54 :: c55 :: c56 :: c57 :: c58 :: c59 :: c60 :: c61 :: c62 :: c63 :: c64 :: c65 :: c66 :: c67 :: c68 :: c69 :: c70 :: c71 :: c72 :: c73 :: c74 :: c75 :: c76 :: c77 :: c78 :: c79 :: c80 :: c81 :: c82 :: c83 :: c84 :: c85 :: c86 :: c87 :: c88 :: c89 :: c90 :: c91 :: u92 :: u93 :: u94 :: u95 :: u96 :: u97 :: u98 :: u99 :: u100 :: u101 :: u102 :: u103 :: u104 :: u105 :: u106 :: u107 :: u108 :: u109 :: u110 :: u111 :: u112 :: u113 :: u114 :: u115 :: u116 :: u117 :: u118 :: u119 :: u120 :: u121 :: u122 :: u123 :: u124 :: u125 :: u126 :: u127 :: u128 :: u129 :: u130 :: u131 :: u132 :: u133 :: u134 :: u135 :: u136 :: u137 :: u138 :: u139 :: u140 :: u141 :: u142 :: u143 :: u144 :: u145 :: u146 :: u147 :: u148 :: c149 :: c150 :: c151 :: c152 :: c153 :: c154 :: c155 :: c156 :: c157 :: c158 :: c159 :: c160 :: c161 :: c162 :: c163 :: c164 :: c165 :: c166 :: c167 :: c168 :: c169 :: c170 :: c171 :: c172 :: c173 :: []), []⟩ wx) : Code.wp Try.prog freeLoop3 Q ⟨List.toArray (.pointer (some ⟨tb, 0, none⟩) :: c1 :: c2 :: c3 :: c4 :: c5 :: c6 :: c7 :: c8 :: c9 :: c10 :: c11 :: ov :: c13 :: .string x :: .pointer (some ⟨pb, 0, none⟩) :: c16 :: c17 :: c18 :: c19 :: c20 :: c21 :: c22 :: c23 :: c24 :: c25 :: c26 :: c27 :: c28 :: c29 :: c30 :: c31 :: c32 :: c33 :: c34 :: c35 :: c36 :: c37 :: c38 :: c39 :: c40 :: c41 :: c42 :: c43 :: c44 :: c45 :: c46 :: c47 :: c48 :: c49 :: c50 :: c51 :: c52 :: c53 :: c54 :: c55 :: c56 :: c57 :: c58 :: c59 :: c60 :: c61 :: c62 :: c63 :: c64 :: c65 :: c66 :: c67 :: c68 :: c69 :: c70 :: c71 :: c72 :: c73 :: c74 :: c75 :: c76 :: c77 :: c78 :: c79 :: c80 :: c81 :: c82 :: c83 :: c84 :: c85 :: c86 :: c87 :: c88 :: c89 :: c90 :: c91 :: c92 :: c93 :: c94 :: c95 :: c96 :: c97 :: c98 :: c99 :: c100 :: c101 :: c102 :: c103 :: c104 :: c105 :: c106 :: c107 :: c108 :: c109 :: c110 :: c111 :: c112 :: c113 :: c114 :: c115 :: c116 :: c117 :: c118 :: c119 :: c120 :: c121 :: c122 :: c123 :: c124 :: c125 :: c126 :: c127 :: c128 :: c129 :: c130 :: c131 :: c132 :: c133 :: c134 :: c135 :: c136 :: c137 :: c138 :: c139 :: c140 :: c141 :: c142 :: c143 :: c144 :: c145 :: c146 :: c147 :: c148 :: c149 :: c150 :: c151 :: c152 :: c153 :: c154 :: c155 :: c156 :: c157 :: c158 :: c159 :: c160 :: c161 :: c162 :: c163 :: c164 :: c165 :: c166 :: c167 :: c168 :: c169 :: c170 :: c171 :: c172 :: c173 :: []), []⟩ w0 := by
  have h0 : SvR w w0 tb pb x y p ρ ns na ov p.queue := ⟨⟨y.1, y.2, L1, ρ1, p, hE, hp, rfl, hpb, rfl, rfl, rfl⟩⟩
  have H0 := hide h0; have HEX := hide hexit; have HPAN := hide hpan; have HN := hide hN
  clear hpan h0 hexit hE hp hpb hN
  conv => arg 2; whnf
  go_loopw [12] (fun v wx => ∃ q, SvR w wx tb pb x y p ρ ns na v q) (fun _ wx => match wx.cell? ⟨pb, 1, none⟩ with | some (.slice _ n _) => n | _ => 0)
  case atStart => exact ⟨_, H0.out⟩
  case round =>
    obtain ⟨q, hR⟩ := hrel
    clear H0
    obtain ⟨mm, out, L2, ρ2, p1, hE, hp, hq, hpb, hf1, hf2, hf3⟩ := hR.ex
    clear hR
    obtain ⟨g1, g2, g3, g4⟩ := hE.tab.pl x p1 hp
    rw [hpb] at g2
    have hblk := g1.blk
    rw [hpb] at hblk
    have HE := hide hE; have HP := hide hp; have HPB := hide hpb; have HF := hide (And.intro hf1 (And.intro hf2 hf3)); have HB := hide hblk
    have HG := hide (And.intro g1 (And.intro g2 (And.intro g3 g4)))
    clear hE hp hpb hf1 hf2 hf3 hblk g1 g2 g3 g4
    have k1 : wr.cell? ⟨pb, 1, none⟩ = some (.slice (L2.pl x).qa p1.queue.length (L2.pl x).qc) := by rw [cell_of_row wr _ _ _ _ _ HB.out]; rfl
    rw [hq] at k1
    have HQ := hide hq; clear hq
    cases q with
    | nil =>
      simp only [List.length_nil] at k1
      go_wp2_with fail
      go_quiet (fail)
      go_wp2_with fail
      have hn : FrE w (wr.drewN nq) tb (mm, out) L2 ρ ρ2 ns na u12 := HE.out.new (Chg.drewN _ _ _)
      have hs : ∀ m', serve x [] m' = (m', []) := fun _ => rfl
      refine HEX.out _ _ _ _ _ _ _ _ _ _ _ _ _ _ _ _ _ _ _ _ _ _ _ _ _ _ _ _ _ _ _ _ _ _ _ _ _ _ _ _ _ _ _ _ _ _ _ _ _ _ _ _ _ _ _ _ _ _ _ _ ⟨⟨L2, ρ2, p1, ?_, ?_, HPB.out⟩⟩
      · rw [HF.out.1, HF.out.2.1, hs]; simpa using hn
      · rw [HF.out.1, hs]; exact HP.out
    | cons z r =>
      obtain ⟨ow, md⟩ := z
      simp only [List.length_cons] at k1
      have hcs := HG.out.1.queue
      rw [HQ.out] at hcs
      obtain ⟨g, off, hqa, k2, k3⟩ := hcs.cells (j := 0) (x := (ow, md)) rfl
      simp only [Nat.zero_mul, Nat.add_zero] at k2 k3
      rw [hqa] at k1
      have hcap := hcs.cap
      simp only [List.length_cons] at hcap
      have HCS := hide hcs; have HQA := hide hqa
      have HK1 := hide k1
      obtain ⟨oa, oc, hov, -⟩ := HE.out.out
      simp only at hov
      subst hov
      clear hcs hqa
      generalize (L2.pl x).qc = qc at k1 hcap HCS
      have HKEEP : Hid (∀ w', Chg NoB wr.drew w' → (fun w' : World => w'.cell? ⟨pb, 1, none⟩ = some (.slice (some ⟨g, off, none⟩) (r.length + 1) qc) ∧ w'.cell? ⟨g, off, none⟩ = some (.int .u64 ow) ∧ w'.cell? ⟨g, off + 1, none⟩ = some (.int .i64 md)) w') := hide (fun w' hc => ⟨(((Chg.drew NoB wr).trans hc).cell (cell_some k1).1 (fun f => f)).trans k1, (((Chg.drew NoB wr).trans hc).cell (cell_some k2).1 (fun f => f)).trans k2, (((Chg.drew NoB wr).trans hc).cell (cell_some k3).1 (fun f => f)).trans k3⟩)
      have hgd := HG.out.1.chg (Chg.drew NoB wr) (fun f => f) (fun f => f) (fun _ _ f => f)
      have hl0 : (0 : Int) < (r.length : Int) + 1 := by omega
      by_cases hgo : goesP p1 ow md
      · have hgc := goes_calls hgd ow md true (by simp [hgo])
        rw [HPB.out] at hgc
        have HGO := hide hgo; have HGC := hide hgc; clear hgo hgc hgd k1 k2 k3
        go_wp2_with fail
        refine AnyM.region (S := fun w' : World => w'.cell? ⟨pb, 1, none⟩ = some (.slice (some ⟨g, off, none⟩) (r.length + 1) qc) ∧ w'.cell? ⟨g, off, none⟩ = some (.int .u64 ow) ∧ w'.cell? ⟨g, off + 1, none⟩ = some (.int .i64 md)) (late := fun _ => false) (by kernel_rfl) ?_
        have hHeld : (fun w' : World => w'.cell? ⟨pb, 1, none⟩ = some (.slice (some ⟨g, off, none⟩) (r.length + 1) qc) ∧ w'.cell? ⟨g, off, none⟩ = some (.int .u64 ow) ∧ w'.cell? ⟨g, off + 1, none⟩ = some (.int .i64 md)) _ := HKEEP.out _ (Chg.refl _ _)
        refine AnyM.take (i := 0) (v := ?va0) rfl (by kernel_rfl) (by kernel_rfl) rfl (by kernel_rfl) (by kernel_rfl) (fun c a w h => HPAN.out c a _ _ w h) (Or.inl ⟨by rfl, ?ya0⟩) hHeld ?ra0
        case ya0 => (intro w hSw; (try dsimp only at hSw); obtain ⟨q1, q2, q3⟩ := hSw; go_simp; try with_reducible rfl)
        try simp only [Act.put, List.setIfInBounds_toArray, List.set_cons_zero, List.set_cons_succ, List.getElem_cons_zero, List.getElem_cons_succ, List.getElem_toArray]
        refine AnyM.take (i := 1) (v := ?va1) rfl (by kernel_rfl) (by kernel_rfl) rfl (by kernel_rfl) (by kernel_rfl) (fun c a w h => HPAN.out c a _ _ w h) (Or.inl ⟨by rfl, ?ya1⟩) hHeld ?ra1
        case ya1 => (intro w hSw; (try dsimp only at hSw); obtain ⟨q1, q2, q3⟩ := hSw; go_simp; try with_reducible rfl)
        try simp only [Act.put, List.setIfInBounds_toArray, List.set_cons_zero, List.set_cons_succ, List.getElem_cons_zero, List.getElem_cons_succ, List.getElem_toArray]
        refine AnyM.take (i := 2) (v := ?va2) rfl (by kernel_rfl) (by kernel_rfl) rfl (by kernel_rfl) (by kernel_rfl) (fun c a w h => HPAN.out c a _ _ w h) (Or.inl ⟨by rfl, ?ya2⟩) hHeld ?ra2
        case ya2 => (intro w hSw; (try dsimp only at hSw); obtain ⟨q1, q2, q3⟩ := hSw; go_simp; try with_reducible rfl)
        try simp only [Act.put, List.setIfInBounds_toArray, List.set_cons_zero, List.set_cons_succ, List.getElem_cons_zero, List.getElem_cons_succ, List.getElem_toArray]
        refine AnyM.take (i := 3) (v := ?va3) rfl (by kernel_rfl) (by kernel_rfl) rfl (by kernel_rfl) (by kernel_rfl) (fun c a w h => HPAN.out c a _ _ w h) (Or.inl ⟨by rfl, ?ya3⟩) hHeld ?ra3
        case ya3 => (intro w hSw; (try dsimp only at hSw); obtain ⟨q1, q2, q3⟩ := hSw; go_simp; try with_reducible rfl)
        try simp only [Act.put, List.setIfInBounds_toArray, List.set_cons_zero, List.set_cons_succ, List.getElem_cons_zero, List.getElem_cons_succ, List.getElem_toArray]
        refine AnyM.take (i := 4) (v := ?va4) rfl (by kernel_rfl) (by kernel_rfl) rfl (by kernel_rfl) (by kernel_rfl) (fun c a w h => HPAN.out c a _ _ w h) (Or.inl ⟨by rfl, ?ya4⟩) hHeld ?ra4
        case ya4 => (intro w hSw; (try dsimp only at hSw); obtain ⟨q1, q2, q3⟩ := hSw; go_simp; try with_reducible rfl)
        try simp only [Act.put, List.setIfInBounds_toArray, List.set_cons_zero, List.set_cons_succ, List.getElem_cons_zero, List.getElem_cons_succ, List.getElem_toArray]
        refine AnyM.take (i := 5) (v := ?va5) rfl (by kernel_rfl) (by kernel_rfl) rfl (by kernel_rfl) (by kernel_rfl) (fun c a w h => HPAN.out c a _ _ w h) (Or.inl ⟨by rfl, ?ya5⟩) hHeld ?ra5
        case ya5 => (intro w hSw; (try dsimp only at hSw); obtain ⟨q1, q2, q3⟩ := hSw; go_simp; try with_reducible rfl)
        try simp only [Act.put, List.setIfInBounds_toArray, List.set_cons_zero, List.set_cons_succ, List.getElem_cons_zero, List.getElem_cons_succ, List.getElem_toArray]
        refine AnyM.take (i := 6) (v := ?va6) rfl (by kernel_rfl) (by kernel_rfl) rfl (by kernel_rfl) (by kernel_rfl) (fun c a w h => HPAN.out c a _ _ w h) (Or.inl ⟨by rfl, ?ya6⟩) hHeld ?ra6
        case ya6 => (intro w hSw; (try dsimp only at hSw); obtain ⟨q1, q2, q3⟩ := hSw; go_simp; try with_reducible rfl)
        try simp only [Act.put, List.setIfInBounds_toArray, List.set_cons_zero, List.set_cons_succ, List.getElem_cons_zero, List.getElem_cons_succ, List.getElem_toArray]
        refine AnyM.take (i := 7) (v := ?va7) rfl (by kernel_rfl) (by kernel_rfl) rfl (by kernel_rfl) (by kernel_rfl) (fun c a w h => HPAN.out c a _ _ w h) (Or.inl ⟨by rfl, ?ya7⟩) hHeld ?ra7
        case ya7 => (intro w hSw; (try dsimp only at hSw); obtain ⟨q1, q2, q3⟩ := hSw; go_simp; try with_reducible rfl)
        try simp only [Act.put, List.setIfInBounds_toArray, List.set_cons_zero, List.set_cons_succ, List.getElem_cons_zero, List.getElem_cons_succ, List.getElem_toArray]
        refine AnyM.take (i := 8) (v := ?va8) rfl (by kernel_rfl) (by kernel_rfl) rfl (by kernel_rfl) (by kernel_rfl) (fun c a w h => HPAN.out c a _ _ w h) (Or.inl ⟨by rfl, ?ya8⟩) hHeld ?ra8
        case ya8 => (intro w hSw; (try dsimp only at hSw); obtain ⟨q1, q2, q3⟩ := hSw; go_simp; try with_reducible rfl)
        try simp only [Act.put, List.setIfInBounds_toArray, List.set_cons_zero, List.set_cons_succ, List.getElem_cons_zero, List.getElem_cons_succ, List.getElem_toArray]
        refine AnyM.take (i := 9) (v := ?va9) rfl (by kernel_rfl) (by kernel_rfl) rfl (by kernel_rfl) (by kernel_rfl) (fun c a w h => HPAN.out c a _ _ w h) (Or.inl ⟨by rfl, ?ya9⟩) hHeld ?ra9
        case ya9 => (intro w hSw; (try dsimp only at hSw); obtain ⟨q1, q2, q3⟩ := hSw; go_simp; try with_reducible rfl)
        try simp only [Act.put, List.setIfInBounds_toArray, List.set_cons_zero, List.set_cons_succ, List.getElem_cons_zero, List.getElem_cons_succ, List.getElem_toArray]
        refine AnyM.take (i := 10) (v := ?va10) rfl (by kernel_rfl) (by kernel_rfl) rfl (by kernel_rfl) (by kernel_rfl) (fun c a w h => HPAN.out c a _ _ w h) (Or.inl ⟨by rfl, ?ya10⟩) hHeld ?ra10
        case ya10 => (intro w hSw; (try dsimp only at hSw); obtain ⟨q1, q2, q3⟩ := hSw; go_simp; try with_reducible rfl)
        try simp only [Act.put, List.setIfInBounds_toArray, List.set_cons_zero, List.set_cons_succ, List.getElem_cons_zero, List.getElem_cons_succ, List.getElem_toArray]
        refine AnyM.take (i := 11) (v := ?va11) rfl (by kernel_rfl) (by kernel_rfl) rfl (by kernel_rfl) (by kernel_rfl) (fun c a w h => HPAN.out c a _ _ w h) (Or.inl ⟨by rfl, ?ya11⟩) hHeld ?ra11
        case ya11 => (intro w hSw; (try dsimp only at hSw); obtain ⟨q1, q2, q3⟩ := hSw; go_simp; try with_reducible rfl)
        try simp only [Act.put, List.setIfInBounds_toArray, List.set_cons_zero, List.set_cons_succ, List.getElem_cons_zero, List.getElem_cons_succ, List.getElem_toArray]
        refine AnyM.take (i := 12) (v := ?va12) rfl (by kernel_rfl) (by kernel_rfl) rfl (by kernel_rfl) (by kernel_rfl) (fun c a w h => HPAN.out c a _ _ w h) (Or.inl ⟨by rfl, ?ya12⟩) hHeld ?ra12
        case ya12 => (intro w hSw; (try dsimp only at hSw); obtain ⟨q1, q2, q3⟩ := hSw; go_simp; try with_reducible rfl)
        try simp only [Act.put, List.setIfInBounds_toArray, List.set_cons_zero, List.set_cons_succ, List.getElem_cons_zero, List.getElem_cons_succ, List.getElem_toArray]
        refine AnyM.take (i := 13) (v := ?va13) rfl (by kernel_rfl) (by kernel_rfl) rfl (by kernel_rfl) (by kernel_rfl) (fun c a w h => HPAN.out c a _ _ w h) (Or.inl ⟨by rfl, ?ya13⟩) hHeld ?ra13
        case ya13 => (intro w hSw; (try dsimp only at hSw); obtain ⟨q1, q2, q3⟩ := hSw; go_simp; try with_reducible rfl)
        try simp only [Act.put, List.setIfInBounds_toArray, List.set_cons_zero, List.set_cons_succ, List.getElem_cons_zero, List.getElem_cons_succ, List.getElem_toArray]
        refine AnyM.take (i := 14) (v := ?va14) rfl (by kernel_rfl) (by kernel_rfl) rfl (by kernel_rfl) (by kernel_rfl) (fun c a w h => HPAN.out c a _ _ w h) (Or.inl ⟨by rfl, ?ya14⟩) hHeld ?ra14
        case ya14 => (intro w hSw; (try dsimp only at hSw); obtain ⟨q1, q2, q3⟩ := hSw; go_simp; try with_reducible rfl)
        try simp only [Act.put, List.setIfInBounds_toArray, List.set_cons_zero, List.set_cons_succ, List.getElem_cons_zero, List.getElem_cons_succ, List.getElem_toArray]
        refine AnyM.take (i := 15) (v := ?va15) rfl (by kernel_rfl) (by kernel_rfl) rfl (by kernel_rfl) (by kernel_rfl) (fun c a w h => HPAN.out c a _ _ w h) (Or.inl ⟨by rfl, ?ya15⟩) hHeld ?ra15
        case ya15 => (intro w hSw; (try dsimp only at hSw); obtain ⟨q1, q2, q3⟩ := hSw; go_simp; try with_reducible rfl)
        try simp only [Act.put, List.setIfInBounds_toArray, List.set_cons_zero, List.set_cons_succ, List.getElem_cons_zero, List.getElem_cons_succ, List.getElem_toArray]
        refine AnyM.take (i := 16) (v := ?va16) rfl (by kernel_rfl) (by kernel_rfl) rfl (by kernel_rfl) (by kernel_rfl) (fun c a w h => HPAN.out c a _ _ w h) (Or.inl ⟨by rfl, ?ya16⟩) hHeld ?ra16
        case ya16 => (intro w hSw; (try dsimp only at hSw); obtain ⟨q1, q2, q3⟩ := hSw; go_simp; try with_reducible rfl)
        try simp only [Act.put, List.setIfInBounds_toArray, List.set_cons_zero, List.set_cons_succ, List.getElem_cons_zero, List.getElem_cons_succ, List.getElem_toArray]
        refine AnyM.take (i := 17) (v := ?va17) rfl (by kernel_rfl) (by kernel_rfl) rfl (by kernel_rfl) (by kernel_rfl) (fun c a w h => HPAN.out c a _ _ w h) (Or.inl ⟨by rfl, ?ya17⟩) hHeld ?ra17
        case ya17 => (intro w hSw; (try dsimp only at hSw); obtain ⟨q1, q2, q3⟩ := hSw; go_simp; try with_reducible rfl)
        try simp only [Act.put, List.setIfInBounds_toArray, List.set_cons_zero, List.set_cons_succ, List.getElem_cons_zero, List.getElem_cons_succ, List.getElem_toArray]
        refine AnyM.take (i := 18) (v := ?va18) rfl (by kernel_rfl) (by kernel_rfl) rfl (by kernel_rfl) (by kernel_rfl) (fun c a w h => HPAN.out c a _ _ w h) (Or.inl ⟨by rfl, ?ya18⟩) hHeld ?ra18
        case ya18 => (intro w hSw; (try dsimp only at hSw); obtain ⟨q1, q2, q3⟩ := hSw; go_simp; try with_reducible rfl)
        try simp only [Act.put, List.setIfInBounds_toArray, List.set_cons_zero, List.set_cons_succ, List.getElem_cons_zero, List.getElem_cons_succ, List.getElem_toArray]
        refine AnyM.take (i := 19) (v := ?va19) rfl (by kernel_rfl) (by kernel_rfl) rfl (by kernel_rfl) (by kernel_rfl) (fun c a w h => HPAN.out c a _ _ w h) (Or.inl ⟨by rfl, ?ya19⟩) hHeld ?ra19
        case ya19 => (intro w hSw; (try dsimp only at hSw); obtain ⟨q1, q2, q3⟩ := hSw; go_simp; try with_reducible rfl)
        try simp only [Act.put, List.setIfInBounds_toArray, List.set_cons_zero, List.set_cons_succ, List.getElem_cons_zero, List.getElem_cons_succ, List.getElem_toArray]
        refine AnyM.take (i := 20) (v := ?va20) rfl (by kernel_rfl) (by kernel_rfl) rfl (by kernel_rfl) (by kernel_rfl) (fun c a w h => HPAN.out c a _ _ w h) (Or.inl ⟨by rfl, ?ya20⟩) hHeld ?ra20
        case ya20 => (intro w hSw; (try dsimp only at hSw); obtain ⟨q1, q2, q3⟩ := hSw; go_simp; try with_reducible rfl)
        try simp only [Act.put, List.setIfInBounds_toArray, List.set_cons_zero, List.set_cons_succ, List.getElem_cons_zero, List.getElem_cons_succ, List.getElem_toArray]
        refine AnyM.take (i := 21) (v := ?va21) rfl (by kernel_rfl) (by kernel_rfl) rfl (by kernel_rfl) (by kernel_rfl) (fun c a w h => HPAN.out c a _ _ w h) (Or.inl ⟨by rfl, ?ya21⟩) hHeld ?ra21
        case ya21 => (intro w hSw; (try dsimp only at hSw); obtain ⟨q1, q2, q3⟩ := hSw; go_simp; try with_reducible rfl)
        try simp only [Act.put, List.setIfInBounds_toArray, List.set_cons_zero, List.set_cons_succ, List.getElem_cons_zero, List.getElem_cons_succ, List.getElem_toArray]
        refine AnyM.step (i := 22) (by kernel_rfl) rfl rfl (fun K hK => ?_)
        go_simp
        refine HGC.out.mono ?_; rintro e w4 ⟨rfl, hcw⟩
        clear hHeld
        refine hK.out _ _ (by first | exact HKEEP.out _ hcw | exact hHeld) (fun hHeld => ?_)
        clear hK K
        try simp only [Act.put, List.setIfInBounds_toArray, List.set_cons_zero, List.set_cons_succ, List.getElem_cons_zero, List.getElem_cons_succ, List.getElem_toArray]
        refine AnyM.take (i := 23) (v := ?va23) rfl (by kernel_rfl) (by kernel_rfl) rfl (by kernel_rfl) (by kernel_rfl) (fun c a w h => HPAN.out c a _ _ w h) (Or.inl ⟨by rfl, ?ya23⟩) hHeld ?ra23
        case ya23 => (intro w hSw; (try dsimp only at hSw); obtain ⟨q1, q2, q3⟩ := hSw; go_simp; try with_reducible rfl)
        try simp only [Act.put, List.setIfInBounds_toArray, List.set_cons_zero, List.set_cons_succ, List.getElem_cons_zero, List.getElem_cons_succ, List.getElem_toArray]
        refine AnyM.done (by kernel_rfl) ?_ _
        have hnew : FrE w w4 tb (mm, out) L2 ρ ρ2 ns na (.slice oa out.length oc) := HE.out.new ((Chg.drew _ _).trans hcw)
        have HNEW := hide hnew
        have HRX := hide (hnew.tab.fresh (Nat.le_refl _))
        obtain ⟨k1, k2, k3⟩ := HKEEP.out _ hcw
        have hb4 := ((Chg.drew _ _).trans hcw).blk HB.out (fun f => f)
        have f1 : w4.frozen? ⟨pb, 1, none⟩ = false := by simp [World.frozen?, hb4]
        have HB4 := hide hb4
        clear hnew hHeld HKEEP HGC hb4
        go_upto_region 24 with (fail)
        have hn5 := HNEW.out.new (Chg.alloc NoB w4 (.cells #[.int .u64 ow, .int .i64 md] 77))
        have hb5 := (Chg.alloc NoB w4 (.cells #[.int .u64 ow, .int .i64 md] 77)).blk HB4.out (fun f => f)
        have hx5 := heap_alloc_new w4 (.cells #[.int .u64 ow, .int .i64 md] 77)
        have hc5 := Chg.alloc NoB w4 (.cells #[.int .u64 ow, .int .i64 md] 77)
        have hne5 : w4.heap.size ≠ pb := fun e => by have := heap_lt HB4.out; omega
        generalize w4.alloc (.cells #[.int .u64 ow, .int .i64 md] 77) = w5 at hn5 hb5 hx5 hc5 ⊢
        generalize w4.heap.size = xb at hx5 hne5 HRX ⊢
        have hcs5 := ((HCS.out.chg ((Chg.drew NoB wr).trans hcw) (fun _ _ f => f)).chg hc5 (fun _ _ f => f))
        rw [HQA.out] at hcs5
        have k1 : w5.cell? ⟨pb, 1, none⟩ = some (.slice (some ⟨g, off, none⟩) (r.length + 1) qc) := (hc5.cell (cell_some k1).1 (fun f => f)).trans k1
        have f1 : w5.frozen? ⟨pb, 1, none⟩ = false := by simp [World.frozen?, hb5]
        obtain ⟨qa', hqa', hQ5⟩ : ∃ qa' : Option Addr, (∀ u : World, (Instr.slice 69 (.slice (some ⟨g, off, none⟩) (r.length + 1) qc) (some (.int .i64 1)) none none).run Try.prog u = .ok (.slice qa' r.length (qc - 1)) u) ∧ QAt w5 qa' r.length (qc - 1) r ∧ (∀ b, qa' = some b → b.block = g) := by
          refine ⟨_, fun u => run_tail2 u 69 askElem askElemSize _ _ _, hcs5.rest, fun b hb => ?_⟩
          by_cases h1 : qc = 1
          · rw [if_pos h1] at hb; cases hb; rfl
          · rw [if_neg h1] at hb; cases hb; rfl
        have HQ5 := hide hQ5
        have HN5 := hide hn5; have HB5 := hide hb5; have HX5 := hide hx5; have HNE5 := hide hne5; have HC5 := hide hc5
        clear hn5 hb5 hx5 hne5 hcs5 hc5 HNEW HB4 hQ5
        go_upto_region 25 with (fail)
        have hrx : ρ2 xb = .none := HRX.out
        have hpp : ((L2.setQ x qa' (qc - 1)).pl x).pb = pb := by simp [TL.setQ, HPB.out]
        have hcp : Chg (fun k => k = (L2.pl x).pb) w5 (w5.setCell ⟨pb, 1, none⟩ (.slice qa' r.length (qc - 1))) := by rw [HPB.out]; exact Chg.cell1 w5 pb 1 _
        have hT6 := HN5.out.tab.pop2 HP.out HQ5.out.1 (fun b hb => by rw [HQ5.out.2 b hb]; exact HG.out.2.2.2 _ HQA.out) hcp (by rw [HPB.out]; exact setCell_blk (i := 1) HB5.out _)
        have hO6 : TOwn w5 ρ2 (w5.setCell ⟨pb, 1, none⟩ (.slice qa' r.length (qc - 1))) ρ2 := ⟨hcp.mono (fun k hk => by have : k = (L2.pl x).pb := hk; rw [this, HPB.out, HG.out.2.1]; simp), fun _ h => .inl h⟩
        have hE6 := HN5.out.go hT6 hO6
        have hx6 := setCell_blk_other (i := 1) HX5.out HNE5.out (.slice qa' r.length (qc - 1))
        clear hcp hO6 k1 f1 hqa'
        generalize w5.setCell ⟨pb, 1, none⟩ (.slice qa' r.length (qc - 1)) = w6 at hT6 hE6 hx6 ⊢
        have x0 : w6.cell? ⟨xb, 0, none⟩ = some (.int .u64 ow) := by rw [cell_of_row w6 _ _ _ _ _ hx6]; rfl
        have x1 : w6.cell? ⟨xb, 1, none⟩ = some (.int .i64 md) := by rw [cell_of_row w6 _ _ _ _ _ hx6]; rfl
        have hhc := hold_calls2 hT6 x _ (TM.setPl_at mm x { p1 with queue := r }) ow md
        rw [hpp] at hhc
        have HHC := hide hhc; have HE6 := hide hE6; have HX6 := hide hx6; have HPP := hide hpp; have HRX := hide hrx
        clear hhc hE6 hx6 hpp hrx hT6 HN5 HB5 HX5 HNE5 HC5 HQ5
        go_wp2_with fail
        refine HHC.out.mono ?_
        rintro e w7 ⟨rfl, L7, ρ7, hT7, hO7, hL7⟩
        have hE7 := HE6.out.go hT7 hO7
        have hx7 := hO7.chg.blk HX6.out (fun hk => hk HRX.out)
        have hr7 : ρ7 xb = .none := role_old hO7 HRX.out (heap_lt HX6.out)
        have HE7 := hide hE7; have HX7 := hide hx7; have HR7 := hide hr7; have HL7 := hide hL7
        clear hE7 hx7 hr7 hL7 hO7 hT7 HE6 HX6 HHC HRX x0 x1
        have d1 : w7.cell? ⟨tb, 1, none⟩ = some (.map (some L7.tw)) := by rw [cell_of_row w7 _ _ _ _ _ HE7.out.tab.blk]; rfl
        have d2 : w7.cell? ⟨xb, 0, none⟩ = some (.int .u64 ow) := by rw [cell_of_row w7 _ _ _ _ _ HX7.out]; rfl
        have hcd := Chg.drew NoB w7
        have HS26 : Hid ((fun w' : World => w'.cell? ⟨tb, 1, none⟩ = some (.map (some L7.tw)) ∧ w'.cell? ⟨xb, 0, none⟩ = some (.int .u64 ow)) w7.drew) := hide ⟨(hcd.cell (cell_some d1).1 (fun f => f)).trans d1, (hcd.cell (cell_some d2).1 (fun f => f)).trans d2⟩
        have hn1 : tb ≠ L7.tw := fun e => by have := HE7.out.tab.rt; rw [e, HE7.out.tab.rw] at this; cases this
        have hn2 : xb ≠ L7.tw := fun e => by have := HE7.out.tab.rw; rw [← e, HR7.out] at this; cases this
        have HKD : Hid (∀ w', Chg (fun k => k = L7.tw) w7.drew w' → (fun w' : World => w'.cell? ⟨tb, 1, none⟩ = some (.map (some L7.tw)) ∧ w'.cell? ⟨xb, 0, none⟩ = some (.int .u64 ow)) w') := hide (fun w' hc => ⟨(hc.cell (cell_some HS26.out.1).1 hn1).trans HS26.out.1, (hc.cell (cell_some HS26.out.2).1 hn2).trans HS26.out.2⟩)
        have HM26 := hide (HE7.out.tab.mw.chg hcd (fun f => f))
        have HN2 := hide hn2
        clear d1 d2 hn1 hn2 hcd
        go_wp2_with fail
        refine AnyM.region (S := fun w' : World => w'.cell? ⟨tb, 1, none⟩ = some (.map (some L7.tw)) ∧ w'.cell? ⟨xb, 0, none⟩ = some (.int .u64 ow)) (late := fun _ => false) (by kernel_rfl) ?_
        have hHeld : (fun w' : World => w'.cell? ⟨tb, 1, none⟩ = some (.map (some L7.tw)) ∧ w'.cell? ⟨xb, 0, none⟩ = some (.int .u64 ow)) _ := HS26.out
        refine AnyM.take (i := 0) (v := ?vb0) rfl (by kernel_rfl) (by kernel_rfl) rfl (by kernel_rfl) (by kernel_rfl) (fun c a w h => HPAN.out c a _ _ w h) (Or.inl ⟨by rfl, ?yb0⟩) hHeld ?rb0
        case yb0 => (intro w hSw; (try dsimp only at hSw); obtain ⟨q1, q2⟩ := hSw; go_simp; try with_reducible rfl)
        try simp only [Act.put, List.setIfInBounds_toArray, List.set_cons_zero, List.set_cons_succ, List.getElem_cons_zero, List.getElem_cons_succ, List.getElem_toArray]
        refine AnyM.take (i := 1) (v := ?vb1) rfl (by kernel_rfl) (by kernel_rfl) rfl (by kernel_rfl) (by kernel_rfl) (fun c a w h => HPAN.out c a _ _ w h) (Or.inl ⟨by rfl, ?yb1⟩) hHeld ?rb1
        case yb1 => (intro w hSw; (try dsimp only at hSw); obtain ⟨q1, q2⟩ := hSw; go_simp; try with_reducible rfl)
        try simp only [Act.put, List.setIfInBounds_toArray, List.set_cons_zero, List.set_cons_succ, List.getElem_cons_zero, List.getElem_cons_succ, List.getElem_toArray]
        refine AnyM.take (i := 2) (v := ?vb2) rfl (by kernel_rfl) (by kernel_rfl) rfl (by kernel_rfl) (by kernel_rfl) (fun c a w h => HPAN.out c a _ _ w h) (Or.inl ⟨by rfl, ?yb2⟩) hHeld ?rb2
        case yb2 => (intro w hSw; (try dsimp only at hSw); obtain ⟨q1, q2⟩ := hSw; go_simp; try with_reducible rfl)
        try simp only [Act.put, List.setIfInBounds_toArray, List.set_cons_zero, List.set_cons_succ, List.getElem_cons_zero, List.getElem_cons_succ, List.getElem_toArray]
        refine AnyM.take (i := 3) (v := ?vb3) rfl (by kernel_rfl) (by kernel_rfl) rfl (by kernel_rfl) (by kernel_rfl) (fun c a w h => HPAN.out c a _ _ w h) (Or.inl ⟨by rfl, ?yb3⟩) hHeld ?rb3
        case yb3 => (intro w hSw; (try dsimp only at hSw); obtain ⟨q1, q2⟩ := hSw; go_simp; try with_reducible rfl)
        try simp only [Act.put, List.setIfInBounds_toArray, List.set_cons_zero, List.set_cons_succ, List.getElem_cons_zero, List.getElem_cons_succ, List.getElem_toArray]
        refine AnyM.take (i := 4) (v := ?vb4) rfl (by kernel_rfl) (by kernel_rfl) rfl (by kernel_rfl) (by kernel_rfl) (fun c a w h => HPAN.out c a _ _ w h) (Or.inl ⟨by rfl, ?yb4⟩) hHeld ?rb4
        case yb4 => (intro w hSw; (try dsimp only at hSw); obtain ⟨q1, q2⟩ := hSw; go_simp; try with_reducible rfl)
        try simp only [Act.put, List.setIfInBounds_toArray, List.set_cons_zero, List.set_cons_succ, List.getElem_cons_zero, List.getElem_cons_succ, List.getElem_toArray]
        refine AnyM.take (i := 5) (v := ?vb5) rfl (by kernel_rfl) (by kernel_rfl) rfl (by kernel_rfl) (by kernel_rfl) (fun c a w h => HPAN.out c a _ _ w h) (Or.inl ⟨by rfl, ?yb5⟩) hHeld ?rb5
        case yb5 => (intro w hSw; (try dsimp only at hSw); obtain ⟨q1, q2⟩ := hSw; go_simp; try with_reducible rfl)
        try simp only [Act.put, List.setIfInBounds_toArray, List.set_cons_zero, List.set_cons_succ, List.getElem_cons_zero, List.getElem_cons_succ, List.getElem_toArray]
        refine AnyM.step (i := 6) (by kernel_rfl) rfl rfl (fun K hK => ?_)
        refine step_del rfl (.tmp 141) (.tmp 143) 63 29 rfl 29 33 Try.underlying63 Try.underlying29 encU_inj encU_key L7.tw rfl HM26.out ow rfl (fun w9 hM9 hc9 => hK.out _ _ (HKD.out _ hc9) (fun _ => ?_))
        clear hK K
        refine AnyM.done (by kernel_rfl) ?_ _
        have hT9 := (HE7.out.tab.chg0 (Chg.drew NoB w7)).delWait hc9 hM9
        have hO9 : TOwn w7 ρ7 w9 ρ7 := ⟨((Chg.drew _ w7).trans hc9).mono (fun k hk => by have : k = L7.tw := hk; rw [this, HE7.out.tab.rw]; simp), fun _ h => .inl h⟩
        have hE9 := HE7.out.go hT9 hO9
        have x9 := (HKD.out _ hc9).2
        have hea := hE9.new (Chg.alloc NoB w9 (.cells #[.int .u64 ow] 29))
        obtain ⟨oa', oc', hov, hrow, -⟩ := hea.out
        simp only [Value.slice.injEq, true_and] at hov
        obtain ⟨rfl, rfl⟩ := hov
        have HEA := hide hea; have HROW := hide hrow
        clear hT9 hO9 hE9 hM9 hc9 hea hrow HE7 HKD HM26 HS26 HX7
        obtain ⟨iu, hiu, hzu0, hzu1, hzu2⟩ := info_parts infoU64
        have hlen : out.length + 1 ≤ 5000000000000 := by have := HF.out.2.2; have := HN.out; simp only [List.length_cons] at *; omega
        have hnews : ∀ ad : Addr, some (⟨w9.heap.size, 0, none⟩ : Addr) = some ad → ∀ j u, [Value.int .u64 ow][j]? = some u → (w9.alloc (.cells #[.int .u64 ow] 29)).cell? (ad.add j) = some u := by
          rintro ad hh j u hu
          cases hh
          rw [add_zero_off]
          cases j with
          | zero => simp at hu; subst hu; rw [cell_of_row _ _ _ _ _ _ (heap_alloc_new w9 _)]; rfl
          | succ j => simp at hu
        have HIU := hide (And.intro hiu (And.intro hzu0 (And.intro hzu1 hzu2))); have HLEN := hide hlen; have HNW := hide hnews
        clear hiu hzu0 hzu1 hzu2 hlen hnews
        go_wp2_with (at_builtin; refine wpList_app_own rfl (.tmp 144) (.tmp 147) 36 rfl 29 iu (.int .u64 0) 1 8 Try.underlying36 HIU.out.1 HIU.out.2.1 HIU.out.2.2.1 HIU.out.2.2.2 rfl (by decide) oa out.length oc _ rfl HROW.out _ 1 1 [.int .u64 ow] rfl (fun h => by cases h) rfl HNW.out (fun u hu => by simp at hu; subst hu; rfl) (by have := HLEN.out; unfold maxLen; omega) (by have := HLEN.out; omega) (Hid.out ?_))
        refine hide (fun a' c' wz hrz hcz hnz => ?_)
        have hfin := HEA.out.app hrz hcz (fun k hk => by
          obtain ⟨b, e1, e2⟩ := hk
          rw [← e2]
          simpa using hnz b e1)
        have HFIN := hide hfin
        clear hrz hcz hnz hfin
        try go_frame
        go_wp2_with fail
        go_roundw
        case rel =>
          have hsc := serve_cons x mm HP.out ow md r HGO.out
          have hh := HF.out
          rw [hsc] at hh
          refine ⟨r, ⟨_, _, L7, ρ7, _, HFIN.out, served_pl x mm p1 ow md r, rfl, by rw [HL7.out]; exact HPP.out, hh.1, by rw [hh.2.1]; simp, by have := hh.2.2; simp only [List.length_cons, List.length_append, List.length_nil] at *; omega⟩⟩
        case measure =>
          have hb := (HFIN.out.tab.pl x _ (served_pl x mm p1 ow md r)).1.blk
          rw [HL7.out, HPP.out] at hb
          have e1 : ∃ v c, wz.cell? ⟨pb, 1, none⟩ = some (.slice v r.length c) := ⟨_, _, by rw [cell_of_row wz _ _ _ _ _ hb]; rfl⟩
          obtain ⟨_, _, e1⟩ := e1
          rw [e1, HK1.out]
          simp
      · have hgc := goes_calls hgd ow md false (by simp [hgo])
        rw [HPB.out] at hgc
        have HGO := hide hgo; have HGC := hide hgc; clear hgo hgc hgd k1 k2 k3
        go_wp2_with fail
        refine AnyM.region (S := fun w' : World => w'.cell? ⟨pb, 1, none⟩ = some (.slice (some ⟨g, off, none⟩) (r.length + 1) qc) ∧ w'.cell? ⟨g, off, none⟩ = some (.int .u64 ow) ∧ w'.cell? ⟨g, off + 1, none⟩ = some (.int .i64 md)) (late := fun _ => false) (by kernel_rfl) ?_
        have hHeld : (fun w' : World => w'.cell? ⟨pb, 1, none⟩ = some (.slice (some ⟨g, off, none⟩) (r.length + 1) qc) ∧ w'.cell? ⟨g, off, none⟩ = some (.int .u64 ow) ∧ w'.cell? ⟨g, off + 1, none⟩ = some (.int .i64 md)) _ := HKEEP.out _ (Chg.refl _ _)
        refine AnyM.take (i := 0) (v := ?vc0) rfl (by kernel_rfl) (by kernel_rfl) rfl (by kernel_rfl) (by kernel_rfl) (fun c a w h => HPAN.out c a _ _ w h) (Or.inl ⟨by rfl, ?yc0⟩) hHeld ?rc0
        case yc0 => (intro w hSw; (try dsimp only at hSw); obtain ⟨q1, q2, q3⟩ := hSw; go_simp; try with_reducible rfl)
        try simp only [Act.put, List.setIfInBounds_toArray, List.set_cons_zero, List.set_cons_succ, List.getElem_cons_zero, List.getElem_cons_succ, List.getElem_toArray]
        refine AnyM.take (i := 1) (v := ?vc1) rfl (by kernel_rfl) (by kernel_rfl) rfl (by kernel_rfl) (by kernel_rfl) (fun c a w h => HPAN.out c a _ _ w h) (Or.inl ⟨by rfl, ?yc1⟩) hHeld ?rc1
        case yc1 => (intro w hSw; (try dsimp only at hSw); obtain ⟨q1, q2, q3⟩ := hSw; go_simp; try with_reducible rfl)
        try simp only [Act.put, List.setIfInBounds_toArray, List.set_cons_zero, List.set_cons_succ, List.getElem_cons_zero, List.getElem_cons_succ, List.getElem_toArray]
        refine AnyM.take (i := 2) (v := ?vc2) rfl (by kernel_rfl) (by kernel_rfl) rfl (by kernel_rfl) (by kernel_rfl) (fun c a w h => HPAN.out c a _ _ w h) (Or.inl ⟨by rfl, ?yc2⟩) hHeld ?rc2
        case yc2 => (intro w hSw; (try dsimp only at hSw); obtain ⟨q1, q2, q3⟩ := hSw; go_simp; try with_reducible rfl)
        try simp only [Act.put, List.setIfInBounds_toArray, List.set_cons_zero, List.set_cons_succ, List.getElem_cons_zero, List.getElem_cons_succ, List.getElem_toArray]
        refine AnyM.take (i := 3) (v := ?vc3) rfl (by kernel_rfl) (by kernel_rfl) rfl (by kernel_rfl) (by kernel_rfl) (fun c a w h => HPAN.out c a _ _ w h) (Or.inl ⟨by rfl, ?yc3⟩) hHeld ?rc3
        case yc3 => (intro w hSw; (try dsimp only at hSw); obtain ⟨q1, q2, q3⟩ := hSw; go_simp; try with_reducible rfl)
        try simp only [Act.put, List.setIfInBounds_toArray, List.set_cons_zero, List.set_cons_succ, List.getElem_cons_zero, List.getElem_cons_succ, List.getElem_toArray]
        refine AnyM.take (i := 4) (v := ?vc4) rfl (by kernel_rfl) (by kernel_rfl) rfl (by kernel_rfl) (by kernel_rfl) (fun c a w h => HPAN.out c a _ _ w h) (Or.inl ⟨by rfl, ?yc4⟩) hHeld ?rc4
        case yc4 => (intro w hSw; (try dsimp only at hSw); obtain ⟨q1, q2, q3⟩ := hSw; go_simp; try with_reducible rfl)
        try simp only [Act.put, List.setIfInBounds_toArray, List.set_cons_zero, List.set_cons_succ, List.getElem_cons_zero, List.getElem_cons_succ, List.getElem_toArray]
        refine AnyM.take (i := 5) (v := ?vc5) rfl (by kernel_rfl) (by kernel_rfl) rfl (by kernel_rfl) (by kernel_rfl) (fun c a w h => HPAN.out c a _ _ w h) (Or.inl ⟨by rfl, ?yc5⟩) hHeld ?rc5
        case yc5 => (intro w hSw; (try dsimp only at hSw); obtain ⟨q1, q2, q3⟩ := hSw; go_simp; try with_reducible rfl)
        try simp only [Act.put, List.setIfInBounds_toArray, List.set_cons_zero, List.set_cons_succ, List.getElem_cons_zero, List.getElem_cons_succ, List.getElem_toArray]
        refine AnyM.take (i := 6) (v := ?vc6) rfl (by kernel_rfl) (by kernel_rfl) rfl (by kernel_rfl) (by kernel_rfl) (fun c a w h => HPAN.out c a _ _ w h) (Or.inl ⟨by rfl, ?yc6⟩) hHeld ?rc6
        case yc6 => (intro w hSw; (try dsimp only at hSw); obtain ⟨q1, q2, q3⟩ := hSw; go_simp; try with_reducible rfl)
        try simp only [Act.put, List.setIfInBounds_toArray, List.set_cons_zero, List.set_cons_succ, List.getElem_cons_zero, List.getElem_cons_succ, List.getElem_toArray]
        refine AnyM.take (i := 7) (v := ?vc7) rfl (by kernel_rfl) (by kernel_rfl) rfl (by kernel_rfl) (by kernel_rfl) (fun c a w h => HPAN.out c a _ _ w h) (Or.inl ⟨by rfl, ?yc7⟩) hHeld ?rc7
        case yc7 => (intro w hSw; (try dsimp only at hSw); obtain ⟨q1, q2, q3⟩ := hSw; go_simp; try with_reducible rfl)
        try simp only [Act.put, List.setIfInBounds_toArray, List.set_cons_zero, List.set_cons_succ, List.getElem_cons_zero, List.getElem_cons_succ, List.getElem_toArray]
        refine AnyM.take (i := 8) (v := ?vc8) rfl (by kernel_rfl) (by kernel_rfl) rfl (by kernel_rfl) (by kernel_rfl) (fun c a w h => HPAN.out c a _ _ w h) (Or.inl ⟨by rfl, ?yc8⟩) hHeld ?rc8
        case yc8 => (intro w hSw; (try dsimp only at hSw); obtain ⟨q1, q2, q3⟩ := hSw; go_simp; try with_reducible rfl)
        try simp only [Act.put, List.setIfInBounds_toArray, List.set_cons_zero, List.set_cons_succ, List.getElem_cons_zero, List.getElem_cons_succ, List.getElem_toArray]
        refine AnyM.take (i := 9) (v := ?vc9) rfl (by kernel_rfl) (by kernel_rfl) rfl (by kernel_rfl) (by kernel_rfl) (fun c a w h => HPAN.out c a _ _ w h) (Or.inl ⟨by rfl, ?yc9⟩) hHeld ?rc9
        case yc9 => (intro w hSw; (try dsimp only at hSw); obtain ⟨q1, q2, q3⟩ := hSw; go_simp; try with_reducible rfl)
        try simp only [Act.put, List.setIfInBounds_toArray, List.set_cons_zero, List.set_cons_succ, List.getElem_cons_zero, List.getElem_cons_succ, List.getElem_toArray]
        refine AnyM.take (i := 10) (v := ?vc10) rfl (by kernel_rfl) (by kernel_rfl) rfl (by kernel_rfl) (by kernel_rfl) (fun c a w h => HPAN.out c a _ _ w h) (Or.inl ⟨by rfl, ?yc10⟩) hHeld ?rc10
        case yc10 => (intro w hSw; (try dsimp only at hSw); obtain ⟨q1, q2, q3⟩ := hSw; go_simp; try with_reducible rfl)
        try simp only [Act.put, List.setIfInBounds_toArray, List.set_cons_zero, List.set_cons_succ, List.getElem_cons_zero, List.getElem_cons_succ, List.getElem_toArray]
        refine AnyM.take (i := 11) (v := ?vc11) rfl (by kernel_rfl) (by kernel_rfl) rfl (by kernel_rfl) (by kernel_rfl) (fun c a w h => HPAN.out c a _ _ w h) (Or.inl ⟨by rfl, ?yc11⟩) hHeld ?rc11
        case yc11 => (intro w hSw; (try dsimp only at hSw); obtain ⟨q1, q2, q3⟩ := hSw; go_simp; try with_reducible rfl)
        try simp only [Act.put, List.setIfInBounds_toArray, List.set_cons_zero, List.set_cons_succ, List.getElem_cons_zero, List.getElem_cons_succ, List.getElem_toArray]
        refine AnyM.take (i := 12) (v := ?vc12) rfl (by kernel_rfl) (by kernel_rfl) rfl (by kernel_rfl) (by kernel_rfl) (fun c a w h => HPAN.out c a _ _ w h) (Or.inl ⟨by rfl, ?yc12⟩) hHeld ?rc12
        case yc12 => (intro w hSw; (try dsimp only at hSw); obtain ⟨q1, q2, q3⟩ := hSw; go_simp; try with_reducible rfl)
        try simp only [Act.put, List.setIfInBounds_toArray, List.set_cons_zero, List.set_cons_succ, List.getElem_cons_zero, List.getElem_cons_succ, List.getElem_toArray]
        refine AnyM.take (i := 13) (v := ?vc13) rfl (by kernel_rfl) (by kernel_rfl) rfl (by kernel_rfl) (by kernel_rfl) (fun c a w h => HPAN.out c a _ _ w h) (Or.inl ⟨by rfl, ?yc13⟩) hHeld ?rc13
        case yc13 => (intro w hSw; (try dsimp only at hSw); obtain ⟨q1, q2, q3⟩ := hSw; go_simp; try with_reducible rfl)
        try simp only [Act.put, List.setIfInBounds_toArray, List.set_cons_zero, List.set_cons_succ, List.getElem_cons_zero, List.getElem_cons_succ, List.getElem_toArray]
        refine AnyM.take (i := 14) (v := ?vc14) rfl (by kernel_rfl) (by kernel_rfl) rfl (by kernel_rfl) (by kernel_rfl) (fun c a w h => HPAN.out c a _ _ w h) (Or.inl ⟨by rfl, ?yc14⟩) hHeld ?rc14
        case yc14 => (intro w hSw; (try dsimp only at hSw); obtain ⟨q1, q2, q3⟩ := hSw; go_simp; try with_reducible rfl)
        try simp only [Act.put, List.setIfInBounds_toArray, List.set_cons_zero, List.set_cons_succ, List.getElem_cons_zero, List.getElem_cons_succ, List.getElem_toArray]
        refine AnyM.take (i := 15) (v := ?vc15) rfl (by kernel_rfl) (by kernel_rfl) rfl (by kernel_rfl) (by kernel_rfl) (fun c a w h => HPAN.out c a _ _ w h) (Or.inl ⟨by rfl, ?yc15⟩) hHeld ?rc15
        case yc15 => (intro w hSw; (try dsimp only at hSw); obtain ⟨q1, q2, q3⟩ := hSw; go_simp; try with_reducible rfl)
        try simp only [Act.put, List.setIfInBounds_toArray, List.set_cons_zero, List.set_cons_succ, List.getElem_cons_zero, List.getElem_cons_succ, List.getElem_toArray]
        refine AnyM.take (i := 16) (v := ?vc16) rfl (by kernel_rfl) (by kernel_rfl) rfl (by kernel_rfl) (by kernel_rfl) (fun c a w h => HPAN.out c a _ _ w h) (Or.inl ⟨by rfl, ?yc16⟩) hHeld ?rc16
        case yc16 => (intro w hSw; (try dsimp only at hSw); obtain ⟨q1, q2, q3⟩ := hSw; go_simp; try with_reducible rfl)
        try simp only [Act.put, List.setIfInBounds_toArray, List.set_cons_zero, List.set_cons_succ, List.getElem_cons_zero, List.getElem_cons_succ, List.getElem_toArray]
        refine AnyM.take (i := 17) (v := ?vc17) rfl (by kernel_rfl) (by kernel_rfl) rfl (by kernel_rfl) (by kernel_rfl) (fun c a w h => HPAN.out c a _ _ w h) (Or.inl ⟨by rfl, ?yc17⟩) hHeld ?rc17
        case yc17 => (intro w hSw; (try dsimp only at hSw); obtain ⟨q1, q2, q3⟩ := hSw; go_simp; try with_reducible rfl)
        try simp only [Act.put, List.setIfInBounds_toArray, List.set_cons_zero, List.set_cons_succ, List.getElem_cons_zero, List.getElem_cons_succ, List.getElem_toArray]
        refine AnyM.take (i := 18) (v := ?vc18) rfl (by kernel_rfl) (by kernel_rfl) rfl (by kernel_rfl) (by kernel_rfl) (fun c a w h => HPAN.out c a _ _ w h) (Or.inl ⟨by rfl, ?yc18⟩) hHeld ?rc18
        case yc18 => (intro w hSw; (try dsimp only at hSw); obtain ⟨q1, q2, q3⟩ := hSw; go_simp; try with_reducible rfl)
        try simp only [Act.put, List.setIfInBounds_toArray, List.set_cons_zero, List.set_cons_succ, List.getElem_cons_zero, List.getElem_cons_succ, List.getElem_toArray]
        refine AnyM.take (i := 19) (v := ?vc19) rfl (by kernel_rfl) (by kernel_rfl) rfl (by kernel_rfl) (by kernel_rfl) (fun c a w h => HPAN.out c a _ _ w h) (Or.inl ⟨by rfl, ?yc19⟩) hHeld ?rc19
        case yc19 => (intro w hSw; (try dsimp only at hSw); obtain ⟨q1, q2, q3⟩ := hSw; go_simp; try with_reducible rfl)
        try simp only [Act.put, List.setIfInBounds_toArray, List.set_cons_zero, List.set_cons_succ, List.getElem_cons_zero, List.getElem_cons_succ, List.getElem_toArray]
        refine AnyM.take (i := 20) (v := ?vc20) rfl (by kernel_rfl) (by kernel_rfl) rfl (by kernel_rfl) (by kernel_rfl) (fun c a w h => HPAN.out c a _ _ w h) (Or.inl ⟨by rfl, ?yc20⟩) hHeld ?rc20
        case yc20 => (intro w hSw; (try dsimp only at hSw); obtain ⟨q1, q2, q3⟩ := hSw; go_simp; try with_reducible rfl)
        try simp only [Act.put, List.setIfInBounds_toArray, List.set_cons_zero, List.set_cons_succ, List.getElem_cons_zero, List.getElem_cons_succ, List.getElem_toArray]
        refine AnyM.take (i := 21) (v := ?vc21) rfl (by kernel_rfl) (by kernel_rfl) rfl (by kernel_rfl) (by kernel_rfl) (fun c a w h => HPAN.out c a _ _ w h) (Or.inl ⟨by rfl, ?yc21⟩) hHeld ?rc21
        case yc21 => (intro w hSw; (try dsimp only at hSw); obtain ⟨q1, q2, q3⟩ := hSw; go_simp; try with_reducible rfl)
        try simp only [Act.put, List.setIfInBounds_toArray, List.set_cons_zero, List.set_cons_succ, List.getElem_cons_zero, List.getElem_cons_succ, List.getElem_toArray]
        refine AnyM.step (i := 22) (by kernel_rfl) rfl rfl (fun K hK => ?_)
        go_simp
        refine HGC.out.mono ?_; rintro e w4 ⟨rfl, hcw⟩
        clear hHeld
        refine hK.out _ _ (by first | exact HKEEP.out _ hcw | exact hHeld) (fun hHeld => ?_)
        clear hK K
        try simp only [Act.put, List.setIfInBounds_toArray, List.set_cons_zero, List.set_cons_succ, List.getElem_cons_zero, List.getElem_cons_succ, List.getElem_toArray]
        refine AnyM.take (i := 23) (v := ?vc23) rfl (by kernel_rfl) (by kernel_rfl) rfl (by kernel_rfl) (by kernel_rfl) (fun c a w h => HPAN.out c a _ _ w h) (Or.inl ⟨by rfl, ?yc23⟩) hHeld ?rc23
        case yc23 => (intro w hSw; (try dsimp only at hSw); obtain ⟨q1, q2, q3⟩ := hSw; go_simp; try with_reducible rfl)
        try simp only [Act.put, List.setIfInBounds_toArray, List.set_cons_zero, List.set_cons_succ, List.getElem_cons_zero, List.getElem_cons_succ, List.getElem_toArray]
        refine AnyM.done (by kernel_rfl) ?_ _
        have hnew : FrE w w4 tb (mm, out) L2 ρ ρ2 ns na (.slice oa out.length oc) := HE.out.new ((Chg.drew _ _).trans hcw)
        have HNEW := hide hnew
        clear hnew hHeld HKEEP HGC hcw
        go_wp2_with fail
        have hss := serve_stop x mm HP.out ow md r HGO.out
        have hh := HF.out
        rw [hss] at hh
        refine HEX.out _ _ _ _ _ _ _ _ _ _ _ _ _ _ _ _ _ _ _ _ _ _ _ _ _ _ _ _ _ _ _ _ _ _ _ _ _ _ _ _ _ _ _ _ _ _ _ _ _ _ _ _ _ _ _ _ _ _ _ _ ⟨⟨L2, ρ2, p1, ?_, ?_, HPB.out⟩⟩
        · rw [hh.1, hh.2.1]; simpa using HNEW.out
        · rw [hh.1]; exact HP.out
end Go.Proofs.Ytjnbbmchmkiodaa
