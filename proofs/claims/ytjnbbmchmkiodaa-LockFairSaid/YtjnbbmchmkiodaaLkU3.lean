/- LockFair: the walk. -/
import Derived.Test.YtjnbbmchmkiodaaLkU2
namespace Go.Proofs.Ytjnbbmchmkiodaa
open Go.RowKit Go.MapKept

set_option linter.unusedSimpArgs false
set_option maxHeartbeats 2000000 in
set_option maxRecDepth 100000 in
theorem fair_walk (w : World) (a : Option Addr) (c : Nat) (l : List UInt8) (hB : BS w a l.length c l) (hm : l.length ≤ maxLen) : Calls Try.prog 5 #[.slice a l.length c] w fun e w' => e = .returned (.bool true) ∧ Chg NoB w w' := by
  unfold maxLen at hm
  have HB := hide hB; clear hB
  go_enter Try.func5, Try.ntmps5
  go_wp2_with fail
  refine (awake_calls w).mono ?_
  rintro e w1 ⟨rfl, hc1⟩
  have HC1 := hide hc1; clear hc1
  go_wp2_with fail
  refine (new_tab w1).mono ?_
  rintro e w2 ⟨rfl, hT, hc2⟩
  have hnew : ∀ k, roleNew w1.heap.size k ≠ .none → w.heap.size ≤ k := fun k hk => by
    have := HC1.out.size
    unfold roleNew at hk
    repeat' split at hk
    all_goals first | omega | exact absurd rfl hk
  have HT := hide hT; have HC2 := hide (HC1.out.trans hc2); have HN := hide hnew; clear hT hc2 hnew HC1
  generalize w1.heap.size + 3 = tb at HT ⊢
  generalize (⟨w1.heap.size, w1.heap.size + 1, w1.heap.size + 2, fun _ => ⟨0, 0, none, 0⟩, fun _ => 0⟩ : TL) = L0 at HT
  generalize roleNew w1.heap.size = ρ0 at HT HN
  go_wp2_with fail
  refine (fair_first HT.out).mono ?_
  rintro e w3 ⟨rfl, m1, L1, ρ1, hT1, hF1, hh1, hO1⟩
  have hc3 : Chg NoB w w3 := HC2.out.trans' hO1.chg (fun k hk => .inr (HN.out k hk))
  have hL : FairL w w3 tb 0 (.slice none 0 0) m1 L1 ρ1 [] := ⟨hT1, hc3, fun k hk => (hO1.own k hk).elim (HN.out k) (fun h => Nat.le_trans HC2.out.size h), hF1, hh1, rfl, Rw.nil _ _ _⟩
  have HL := hide hL
  clear hT1 hF1 hh1 hO1 hc3 hL HT HN HC2
  go_wp2_with fail
  go_loopw [4, 5] (fun wv v wr => ∃ (i : Nat) (m : TM) (L : TL) (ρ : Nat → Role) (q : List (Int × Int)), i ≤ l.length ∧ i ≤ 40 ∧ v = .int .i64 i ∧ FairL w wr tb i wv m L ρ q) (fun _ v _ => l.length - (intOf v).toNat)
  case atStart => exact ⟨0, m1, L1, ρ1, [], by omega, by omega, rfl, HL.out⟩
  case round =>
    clear HL
    obtain ⟨i, m, L, ρ, q, hi, h40, rfl, hL⟩ := hrel
    have HL := hide hL; clear hL
    by_cases hlt : i < l.length ∧ i < 40
    · obtain ⟨hl1, hl2⟩ := hlt
      obtain ⟨bk, off, rfl, hcell⟩ := HB.out.form (by omega)
      have hb := hcell i hl1
      have kb : wr.cell? ⟨bk, off + i, none⟩ = some (.int .u8 (l.getD i 0).toNat) := (HL.out.chg.cell (cell_some hb).1 (fun f => f)).trans hb
      clear hcell hb
      have hi0 : (0 : Int) ≤ (i : Int) := by omega
      have hi1 : (i : Int) < (l.length : Int) := by omega
      have hi2 : (i : Int) < 40 := by omega
      go_wp2_with fail
      have hmd := mode8_isM (↑l[i].toNat)
      generalize wrap64 (1 + wrap64 (bits .and .u8 (↑l[i].toNat) 3)) = md at hmd ⊢
      have hql : q.length = i := by have := congrArg List.length HL.out.qs; simpa [wants_length] using this
      refine (fair_ask HL.out.tab HL.out.fi HL.out.h4 (by omega) (2 + (i : Int)) md (fun hmem => ?_) (by omega) hmd).mono ?_
      · rw [HL.out.qs] at hmem
        simp only [List.mem_append, List.mem_singleton] at hmem
        rcases hmem with h | h
        · omega
        · have := wants_mem h; omega
      · rintro e w4 ⟨rfl, m', L', ρ', hT4, hF4, hh4, hO4⟩
        have hc4 : Chg NoB w w4 := HL.out.chg.trans' hO4.chg (fun k hk => .inr (HL.out.new k hk))
        have hn4 : ∀ k, ρ' k ≠ .none → w.heap.size ≤ k := fun k hk => (hO4.own k hk).elim (HL.out.new k) (fun h => Nat.le_trans HL.out.chg.size h)
        have hr4 := HL.out.row.go hO4
        obtain ⟨wa, wc, rfl, -, -⟩ := id hr4
        have hra := hr4.new (Chg.alloc NoB w4 (.cells #[.int .u64 (2 + (i : Int))] 29))
        obtain ⟨_, _, hv, hrow, -⟩ := id hra
        simp only [Value.slice.injEq, true_and] at hv
        obtain ⟨rfl, rfl⟩ := hv
        have hTa := hT4.chg0 (Chg.alloc NoB w4 (.cells #[.int .u64 (2 + (i : Int))] 29))
        have hca := hc4.trans (Chg.alloc NoB w4 (.cells #[.int .u64 (2 + (i : Int))] 29))
        have hnews : ∀ ad : Addr, some (⟨w4.heap.size, 0, none⟩ : Addr) = some ad → ∀ j u, [Value.int .u64 (2 + (i : Int))][j]? = some u → (w4.alloc (.cells #[.int .u64 (2 + (i : Int))] 29)).cell? (ad.add j) = some u := by
          rintro ad hh j u hu
          cases hh
          rw [add_zero_off]
          cases j with
          | zero => simp at hu; subst hu; rw [cell_of_row _ _ _ _ _ _ (heap_alloc_new w4 _)]; rfl
          | succ j => simp at hu
        obtain ⟨iu, hiu, hzu0, hzu1, hzu2⟩ := info_parts infoU64
        have HIU := hide (And.intro hiu (And.intro hzu0 (And.intro hzu1 hzu2))); have HNW := hide hnews; have HROW := hide hrow; have HRA := hide hra; have HTA := hide hTa; have HCA := hide hca
        have HF4 := hide hF4; have HH4 := hide hh4; have HN4 := hide hn4; have HQL := hide hql
        clear hiu hzu0 hzu1 hzu2 hnews hrow hra hTa hca hF4 hh4 hn4 hr4 hc4 hO4 hT4 hql kb hmd
        have hwl : (wants i).length ≤ 40 := by rw [wants_length]; omega
        go_wp2_with (at_builtin; refine wpList_app_own rfl (.tmp 40) (.tmp 44) 36 rfl 29 iu (.int .u64 0) 1 8 Try.underlying36 HIU.out.1 HIU.out.2.1 HIU.out.2.2.1 HIU.out.2.2.2 rfl (by decide) wa (wants i).length wc _ rfl HROW.out _ 1 1 [.int .u64 (2 + (i : Int))] rfl (fun h => by cases h) rfl HNW.out (fun u hu => by simp at hu; subst hu; rfl) (by unfold maxLen; omega) (by omega) (Hid.out ?_))
        refine hide (fun a' c' wz hrz hcz hnz => ?_)
        have hfz : FairL w wz tb (i + 1) (.slice a' ((wants i).length + 1) c') m' L' ρ' (q ++ [(2 + (i : Int), md)]) := by
          have hF : ∀ k, (∃ b, wa = some b ∧ b.block = k) → w.heap.size ≤ k ∧ ρ' k = .none := fun k hk => by
            obtain ⟨b, h1, h2⟩ := hk
            subst h1
            have := HRA.out.lt rfl
            rw [← h2]; exact this.2
          have hr := HRA.out.app (ys := [2 + (i : Int)]) (k := 1) (fun k hk => HTA.out.fresh hk) HCA.out.size rfl hrz (fun k hk => by
            obtain ⟨b, e1, e2⟩ := hk
            rw [← e2]
            simpa using hnz b e1)
          have hs2 : wants (i + 1) = wants i ++ [2 + (i : Int)] := by rw [wants_succ]; simp
          exact ⟨HTA.out.chg hcz (fun k hk => (hF k hk).2), HCA.out.trans' hcz (fun k hk => .inr (hF k hk).1), HN4.out, HF4.out, HH4.out, by rw [List.map_append, HL.out.qs, hs2]; rfl, by rw [hs2]; exact hr⟩
        have HFZ := hide hfz
        clear hrz hcz hnz hfz
        try go_frame
        go_wp2_with fail
        go_roundw
        case rel => exact ⟨i + 1, m', L', ρ', _, by omega, by omega, by go_num, HFZ.out⟩
        case measure => simp [intOf]; omega
    · have hG : FairG w (wr.alloc (.cells #[.int .u64 1] 29)) tb i u4 (.slice none 0 0) m L ρ [1] q [] :=
        ⟨HL.out.tab.chg0 (Chg.alloc _ _ _), HL.out.chg.trans (Chg.alloc _ _ _), HL.out.new, HL.out.fi, by simpa using HL.out.qs, HL.out.row.new (Chg.alloc _ _ _), Rw.nil _ _ _, apart.nil _⟩
      have hN : FairN w (wr.alloc (.cells #[.int .u64 1] 29)) u4 (.slice none 0 0) ρ (.slice (some ⟨wr.heap.size, 0, none⟩) 1 1) [1] := by
        refine ⟨⟨some ⟨wr.heap.size, 0, none⟩, 1, rfl, ⟨rfl, .inr ⟨wr.heap.size, 1, _, rfl, Nat.zero_le _, heap_alloc_new wr _, Nat.le_refl _, by unfold maxLen; omega, rfl, rfl⟩⟩, fun b e => ?_⟩, fun x n c y k d h1 h2 he => ?_, apart.nil' _⟩
        · cases e
          exact ⟨HL.out.chg.size, HL.out.tab.fresh (Nat.le_refl _)⟩
        · cases h2
          have h3 := (HL.out.row.lt h1).1
          have he' : x.block = wr.heap.size := he
          omega
      have HG := hide hG; have HN := hide hN
      clear hG hN HL
      have hcut : (i < l.length ∧ i = 40) ∨ i = l.length := by omega
      clear hlt
      rcases hcut with ⟨h1, h2⟩ | h2
      · have hi1 : (i : Int) < (l.length : Int) := by omega
        have hi2 : ¬ (i : Int) < 40 := by omega
        clear h2
        go_wp2_with fail
        refine fair_loop2 HG.out HN.out h40 (by simp) _ _ _ _ _ _ _ _ _ _ _ _ _ _ _ _ _ _ _ _ _ _ _ _ _ _ _ _ _ _ _ _ _ _ _ _ _ _ _ _ _ _ _ _ _ _ _ _ _ _ _ _ _ _ _ _ _ _ _ _ _ _ _ _ _ _ _ _ _ ?_
        intro u8 u9 u10 u47 u48 u49 u50 u51 u52 u53 u54 u55 u56 u57 u58 u59 u60 u61 u62 u63 u64 u65 u66 u67 u68 gv' nv' wx ρx hW hGt hC
        obtain ⟨wa, wc, rfl, hwr⟩ := hW.form
        obtain ⟨ga, gc, rfl, hgr⟩ := hGt.form
        have HNC := hide (numbers_calls hgr hwr (by rw [wants_length]; omega) true (by simp))
        have HCX := hide hC
        clear hW hGt hwr hgr hC HG HN
        go_wp2_with fail
        refine HNC.out.mono ?_
        rintro e wz ⟨rfl, hcz⟩
        have HCZ := hide (HCX.out.trans hcz)
        clear hcz
        go_wp2_with fail
        go_ret
        exact ⟨rfl, HCZ.out⟩
      · have hi1 : ¬ (i : Int) < (l.length : Int) := by omega
        clear h2
        go_wp2_with fail
        refine fair_loop2 HG.out HN.out h40 (by simp) _ _ _ _ _ _ _ _ _ _ _ _ _ _ _ _ _ _ _ _ _ _ _ _ _ _ _ _ _ _ _ _ _ _ _ _ _ _ _ _ _ _ _ _ _ _ _ _ _ _ _ _ _ _ _ _ _ _ _ _ _ _ _ _ _ _ _ _ _ ?_
        intro u8 u9 u10 u47 u48 u49 u50 u51 u52 u53 u54 u55 u56 u57 u58 u59 u60 u61 u62 u63 u64 u65 u66 u67 u68 gv' nv' wx ρx hW hGt hC
        obtain ⟨wa, wc, rfl, hwr⟩ := hW.form
        obtain ⟨ga, gc, rfl, hgr⟩ := hGt.form
        have HNC := hide (numbers_calls hgr hwr (by rw [wants_length]; omega) true (by simp))
        have HCX := hide hC
        clear hW hGt hwr hgr hC HG HN
        go_wp2_with fail
        refine HNC.out.mono ?_
        rintro e wz ⟨rfl, hcz⟩
        have HCZ := hide (HCX.out.trans hcz)
        clear hcz
        go_wp2_with fail
        go_ret
        exact ⟨rfl, HCZ.out⟩
theorem fair_walk2 (w : World) (a : Option Addr) (n c : Nat) (l : List UInt8) (hB : BS w a n c l) (hc : c * 1 ≤ 140737488351232) : Calls Try.prog 5 #[.slice a n c] w fun e w' => e = .returned (.bool true) ∧ Chg NoB w w' := by
  have h1 := hB.len
  have h2 := hB.cap
  subst h1
  exact fair_walk w a c l hB (by unfold maxLen; omega)
end Go.Proofs.Ytjnbbmchmkiodaa
