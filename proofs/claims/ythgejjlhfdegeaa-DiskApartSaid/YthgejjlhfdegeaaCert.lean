/- DiskCertain: the walk. -/
import Derived.Test.YthgejjlhfdegeaaDiskJ
import Derived.Test.YthgejjlhfdegeaaKept
import Derived.Test.YthgejjlhfdegeaaCertP
namespace Go.Proofs.Ythgejjlhfdegeaa
open Go.RowKit Go.MapKept

/-- A device and two blocks that it does not own, between lo and hi; all of it is new since w0. -/
structure CS (w0 : World) (lo hi sb g gy : Nat) (og oy : Obj) (m : DM) (F C : Nat → Prop) (wr : World) : Prop where
  dev : Disk wr sb m F C
  own : ∀ k, F k → w0.heap.size ≤ k
  far : ∀ k, lo ≤ k → k < hi → ¬ F k
  chg : Chg NoB w0 wr
  size : hi ≤ wr.heap.size
  hg : wr.heap[g]? = some og
  hy : wr.heap[gy]? = some oy
  gr : lo ≤ g ∧ g < hi
  yr : lo ≤ gy ∧ gy < hi
section
variable {w0 w w' : World} {lo hi sb g gy : Nat} {og oy : Obj} {m m' : DM} {F C F' C' : Nat → Prop}
theorem CS.step (h : CS w0 lo hi sb g gy og oy m F C w) (hd : Disk w' sb m' F' C') (ho : Own w F C w' F' C') : CS w0 lo hi sb g gy og oy m' F' C' w' :=
  ⟨hd, fun k hk => (ho.f k hk).elim (h.own k) (fun e => Nat.le_trans h.chg.size e),
   fun k h1 h2 hk => (ho.f k hk).elim (h.far k h1 h2) (fun e => by have := h.size; omega),
   h.chg.trans' ho.chg (fun i hi => .inr (h.own i hi)), Nat.le_trans h.size ho.chg.size,
   ho.chg.blk h.hg (h.far g h.gr.1 h.gr.2), ho.chg.blk h.hy (h.far gy h.yr.1 h.yr.2), h.gr, h.yr⟩
theorem CS.same (h : CS w0 lo hi sb g gy og oy m F C w) (hc : Chg NoB w w') : CS w0 lo hi sb g gy og oy m F C w' :=
  ⟨h.dev.chg0 hc, h.own, h.far, h.chg.trans hc, Nat.le_trans h.size hc.size, hc.blk h.hg (fun f => f), hc.blk h.hy (fun f => f), h.gr, h.yr⟩
theorem CS.chgF (h : CS w0 lo hi sb g gy og oy m F C w) (hd : Disk w' sb m' F C) (hc : Chg F w w') : CS w0 lo hi sb g gy og oy m' F C w' :=
  h.step hd ⟨hc, fun _ h => .inl h, fun _ h => .inl h⟩
end

theorem made_i (w : World) {i : Nat} (hi : i < 4) : BS (w.alloc (.cells #[.int .u8 (i : Int)] 5)) (some ⟨w.heap.size, 0, none⟩) 1 1 [UInt8.ofNat i] := by
  have e : bcells [UInt8.ofNat i] = [.int .u8 (i : Int)] := by
    simp [bcells, bcell]; omega
  have := BS.newblock w [UInt8.ofNat i] (n := 1) rfl
  rw [e] at this
  exact this

set_option maxHeartbeats 4000000 in
set_option maxRecDepth 100000 in
theorem cert_walk (w : World) (n fuse : Int) (ba ca la xa : Option Addr) (bn bc cn cc ln lc xn xc : Nat) (b c log ch : List UInt8) (hb : BS w ba bn bc b) (hc : BS w ca cn cc c) (hl : BS w la ln lc log) (hx : BS w xa xn xc ch)
    (hbn : bn ≤ 140737488351232) (hcn : cn ≤ 140737488351232) (hln : ln ≤ 140737488351232) :
    Calls Try.prog 5 #[.int .i64 n, .slice ba bn bc, .slice ca cn cc, .slice la ln lc, .slice xa xn xc, .int .i64 fuse] w fun e w' => e = .returned (.bool true) ∧ Chg NoB w w' := by
  obtain ⟨iu, hu, hu0, hu1, hu2⟩ := info_parts infoU8
  have hsz64 : (Try.prog.info? (Try.prog.elem 28)).map (·.size) = some 1 := by kernel_rfl
  have hbl := hb.len; have hcl := hc.len; have hll := hl.len
  have HBL := hide hbl; have HCL := hide hcl; have HLL := hide hll; clear hbl hcl hll
  have HNILB : Hid (ba = none → bn = 0 ∧ bc = 0) := fun e => ⟨by have := hb.nil e; have := hb.cap; omega, hb.nil e⟩
  have HNILC : Hid (ca = none → cn = 0 ∧ cc = 0) := fun e => ⟨by have := hc.nil e; have := hc.cap; omega, hc.nil e⟩
  obtain ⟨k, hk, hkn⟩ := and3_i64 n
  have hf7 := and7_i64 fuse
  generalize hfu : bits .and .i64 fuse 7 = fu at hf7
  have HF7 := hide hf7; clear hf7
  go_enter Try.func5, Try.ntmps5
  go_wp2_with fail
  refine (awake_calls _).mono ?_
  rintro e w1 ⟨rfl, hc1⟩
  go_wp2_with fail
  refine (new_disk 8 4096 _ (by omega) (by omega) (by omega)).mono ?_
  rintro e w2 ⟨rfl, hD, hc2, hs2⟩
  have HF0 : Hid ((∀ k, onlyNew w1.heap.size k → w.heap.size ≤ k) ∧ ∀ k, w2.heap.size ≤ k → ¬ onlyNew w1.heap.size k) := ⟨fun k hk => by have := hc1.size; rcases hk with h | h | h <;> omega, fun k hk h => by rcases h with h | h | h <;> omega⟩
  clear hs2
  have hcA := hc1.trans hc2
  generalize onlyNew w1.heap.size = F2 at hD HF0
  generalize w1.heap.size = g0 at hD ⊢
  clear hc1 hc2
  go_wp2_with (first | (at_builtin; refine wpList_app_own rfl (.tmp 41) (.tmp 42) 28 rfl 5 iu (.int .u8 0) 1 1 Try.underlying28 hu hu0 hu1 hu2 rfl (by decide) (some ⟨w2.heap.size, 0, none⟩) 0 0 [] rfl (row_nil w2 5) ba bn bc (bcells b) rfl HNILB.out (by rw [bcells_length, Nat.mul_one]; exact HBL.out.symm) ((hb.chg0 hcA).chg0 (Chg.alloc NoB w2 _)).cell (bcells_one b) (by unfold maxLen; omega) (by omega) (Hid.out ?_)))
  refine hide (fun a3 c3 w3 hr3 hc3 hat3 => ?_)
  try go_frame
  go_wp2_with (first | (at_builtin; refine wpList_app_zeros rfl (.tmp 43) (.const (.int .i64 512)) 28 3 rfl 5 iu (.int .u8 0) 1 .i64 .i64 Try.underlying28 Try.underlying3 hu hu0 hu1 hu2 rfl rfl a3 bn c3 (bcells b) rfl hr3 512 rfl (by omega) (by omega) (by omega) (Hid.out ?_)))
  refine hide (fun a4 c4 w4 hr4 hc4 hat4 => ?_)
  obtain ⟨g, cur, rfl, _, hg, hgc, hgs, hgt⟩ := row_block hr4 (by omega)
  have hcB : Chg NoB w2 w4 := ((Chg.alloc NoB w2 _).trans' hc3 (fun i hi => .inr (by omega))).trans' hc4 (fun i ⟨b, hb, hbi⟩ => .inr (by have := hat3 b hb; omega))
  have hgn : w2.heap.size ≤ g := by
    rcases hat4 _ rfl with ⟨b, hb, hbg⟩ | h
    · have := hat3 b hb; have : b.block = g := hbg; omega
    · have := hc3.size; have : w3.heap.size ≤ g := h; simp only [World.size_alloc] at *; omega
  obtain ⟨x, hxd⟩ : ∃ x, x = (b ++ List.replicate 512 0).take 512 := ⟨_, rfl⟩
  have hxl : x.length = 512 := by rw [hxd, List.length_take, List.length_append, List.length_replicate]; omega
  have hgx : cur.toList.take 512 = bcells x := by
    have e1 : cur.toList.take 512 = (cur.toList.take (bn + 512)).take 512 := by rw [List.take_take, Nat.min_eq_left (by omega)]
    rw [e1, hgt, hxd, bcells_take, bcells_append, zcells_u8]
  have hc4c : (512 : Int) ≤ (c4 : Int) := by omega
  have HBX : Hid (∀ w', w'.heap[g]? = some (.cells cur 5 (0, 0)) → BS w' (some ⟨g, 0, none⟩) 512 c4 x) := fun w' hw => BS.block hw hxl.symm (by omega) hgx
  have HXL := hide hxl; clear hxl hxd hgx hgs hgt
  have HGB := hide (And.intro hgn (heap_lt hg))
  clear hr3 hc3 hat3 hc4 hat4 hr4 hgn w3
  have hD4 := hD.chg0 hcB
  have HS24 := hide hcB.size
  have hcC := hcA.trans hcB
  have HG := hide hg; clear hg hD hcA hcB
  try go_frame
  go_wp2_with (first | (at_builtin; refine wpList_app_own rfl (.tmp 46) (.tmp 47) 28 rfl 5 iu (.int .u8 0) 1 1 Try.underlying28 hu hu0 hu1 hu2 rfl (by decide) (some ⟨w4.heap.size, 0, none⟩) 0 0 [] rfl (row_nil w4 5) ca cn cc (bcells c) rfl HNILC.out (by rw [bcells_length, Nat.mul_one]; exact HCL.out.symm) ((hc.chg0 hcC).chg0 (Chg.alloc NoB w4 _)).cell (bcells_one c) (by unfold maxLen; omega) (by omega) (Hid.out ?_)))
  refine hide (fun a5 c5 w5 hr5 hc5 hat5 => ?_)
  try go_frame
  go_wp2_with (first | (at_builtin; refine wpList_app_zeros rfl (.tmp 48) (.const (.int .i64 512)) 28 3 rfl 5 iu (.int .u8 0) 1 .i64 .i64 Try.underlying28 Try.underlying3 hu hu0 hu1 hu2 rfl rfl a5 cn c5 (bcells c) rfl hr5 512 rfl (by omega) (by omega) (by omega) (Hid.out ?_)))
  refine hide (fun a6 c6 w6 hr6 hc6 hat6 => ?_)
  obtain ⟨gy, cury, rfl, _, hgy, hgyc, hgys, hgyt⟩ := row_block hr6 (by omega)
  have hcB : Chg NoB w4 w6 := ((Chg.alloc NoB w4 _).trans' hc5 (fun i hi => .inr (by omega))).trans' hc6 (fun i ⟨b, hb, hbi⟩ => .inr (by have := hat5 b hb; omega))
  have hgyn : w4.heap.size ≤ gy := by
    rcases hat6 _ rfl with ⟨b, hb, hbg⟩ | h
    · have := hat5 b hb; have : b.block = gy := hbg; omega
    · have := hc5.size; have : w5.heap.size ≤ gy := h; simp only [World.size_alloc] at *; omega
  obtain ⟨y, hyd⟩ : ∃ y, y = (c ++ List.replicate 512 0).take 512 := ⟨_, rfl⟩
  have hyl : y.length = 512 := by rw [hyd, List.length_take, List.length_append, List.length_replicate]; omega
  have hgyx : cury.toList.take 512 = bcells y := by
    have e1 : cury.toList.take 512 = (cury.toList.take (cn + 512)).take 512 := by rw [List.take_take, Nat.min_eq_left (by omega)]
    rw [e1, hgyt, hyd, bcells_take, bcells_append, zcells_u8]
  have hc6c : (512 : Int) ≤ (c6 : Int) := by omega
  have HBY : Hid (∀ w', w'.heap[gy]? = some (.cells cury 5 (0, 0)) → BS w' (some ⟨gy, 0, none⟩) 512 c6 y) := fun w' hw => BS.block hw hyl.symm (by omega) hgyx
  have HYL := hide hyl; clear hyl hyd hgyx hgys hgyt
  have hS : CS w w2.heap.size w6.heap.size (g0 + 2) g gy (.cells cur 5 (0, 0)) (.cells cury 5 (0, 0)) (DM.fresh 8 4096) F2 NoB w6 :=
    ⟨hD4.chg0 hcB, HF0.out.1, fun k h1 _ => HF0.out.2 k h1, hcC.trans hcB, Nat.le_refl _, hcB.blk HG.out (fun f => f), hgy, ⟨HGB.out.1, Nat.lt_of_lt_of_le HGB.out.2 hcB.size⟩, ⟨Nat.le_trans HS24.out hgyn, heap_lt hgy⟩⟩
  clear hr5 hc5 hat5 hc6 hat6 hr6 hgyn w5 hD4 hcC hcB HG HGB HS24 hgy HF0
  generalize w2.heap.size = lo at hS
  generalize hhi : w6.heap.size = hi at hS
  clear hhi
  have hLF : ∀ (F C : Nat → Prop) (m : DM) (w' : World), CS w lo hi (g0 + 2) g gy (.cells cur 5 (0, 0)) (.cells cury 5 (0, 0)) m F C w' → ∀ b, la = some b → 0 < ln → ¬ F b.block := fun F C m w' h b hb hp hf => by have := h.own _ hf; have := hl.lt hp b hb; omega
  have HLF := hide hLF; clear hLF
  by_cases hfar : (4096 : Int) < (ln : Int)
  · go_wp2_with fail
    refine (hS.dev.append _ _ _ log (hl.chg0 hS.chg) (HLF.out _ _ _ _ hS) (by unfold maxLen; omega)).mono ?_
    rintro e w7 ⟨he, F7, C7, hD7, ho7⟩
    rw [cert_far log (by rw [← HLL.out]; omega)] at he
    subst he
    have hE := (hS.step hD7 ho7).chg
    go_wp2_with fail
    go_ret
    exact ⟨rfl, hE⟩
  · obtain ⟨q1, q2, q3, q4, q5⟩ := cert_start k hk x log HXL.out (by rw [← HLL.out]; omega) fu
    have HQ1 := hide q1; have HQ2 := hide q2; have HQ3 := hide q3; have HQ4 := hide q4; have HQ5 := hide q5
    clear q1 q2 q3 q4 q5
    go_wp2_with fail
    refine (hS.dev.write k _ _ _ x (HBX.out _ hS.hg) (by simp [DM.fresh])).mono ?_
    rintro e w7 ⟨he, F7, C7, hD7, ho7⟩
    rw [HQ1.out] at he
    subst he
    rw [ct1_eq] at hD7
    have hS7 := hS.step hD7 ho7
    clear hD7 ho7 hS HQ1
    go_wp2_with fail
    refine (hS7.dev.append _ _ _ log (hl.chg0 hS7.chg) (HLF.out _ _ _ _ hS7) (by unfold maxLen; omega)).mono ?_
    rintro e w8 ⟨he, F8, C8, hD8, ho8⟩
    rw [HQ2.out] at he
    subst he
    rw [ct2_eq] at hD8
    have hS8 := hS7.step hD8 ho8
    clear hD8 ho8 hS7 HQ2
    go_wp2_with fail
    refine (hS8.dev.sync).mono ?_
    rintro e w9 ⟨he, F9, C9, hD9, ho9⟩
    rw [HQ3.out] at he
    subst he
    rw [ct3_eq] at hD9
    have hS9 := hS8.step hD9 ho9
    clear hD9 ho9 hS8 HQ3
    go_wp2_with fail
    refine (hS9.dev.force).mono ?_
    rintro e w10 ⟨he, F10, C10, hD10, ho10⟩
    rw [HQ4.out] at he
    subst he
    rw [ct4_eq] at hD10
    have hS10 := hS9.step hD10 ho10
    clear hD10 ho10 hS9 HQ4
    go_wp2_with fail
    refine (hS10.dev.fuse fu HF7.out).mono ?_
    rintro e w11 ⟨rfl, hD11, hcf⟩
    have hS11 := hS10.chgF (m' := (ct4 k x log).setFuse fu) hD11 hcf
    clear hD11 hcf hS10
    generalize (ct4 k x log).setFuse fu = m11 at hS11 HQ5
    go_wp2_with fail
    go_loopw [18] (fun v wr => ∃ (i : Nat) (m : DM) (F C : Nat → Prop), i ≤ 4 ∧ v = .int .i64 i ∧ CS w lo hi (g0 + 2) g gy (.cells cur 5 (0, 0)) (.cells cury 5 (0, 0)) m F C wr ∧ CI m k x log i) (fun v _ => 4 - (intOf v).toNat)
    case atStart => exact ⟨0, m11, F10, C10, by omega, rfl, hS11, HQ5.out⟩
    case round =>
      obtain ⟨i, m, F, C, hi4, rfl, hSL, hci⟩ := hrel
      have HCI := hide hci; clear hci hS11
      by_cases hlt : i < 4
      · have hlt' : (i : Int) < 4 := by omega
        go_wp2_with fail
        refine (hSL.dev.write (4 + (i : Int)) _ _ _ y (HBY.out _ hSL.hy) (by have := HCI.out.cnt; omega)).mono ?_
        rintro e w12 ⟨he, F12, C12, hD12, ho12⟩
        obtain ⟨hci2, hres⟩ := HCI.out.write y HYL.out hlt
        have hS12 := hSL.step hD12 ho12
        have HCI2 := hide hci2
        have HAP := hide (hci2.append hD12.ok.certain [UInt8.ofNat i])
        clear hci2 hD12 ho12 hSL HCI
        generalize (m.write (4 + (i : Int)) y).1 = m12 at hS12 HCI2 HAP hres
        rcases hres with h0 | ⟨h9, hdead⟩
        · rw [h0] at he
          subst he
          clear h0
          go_wp2_with fail
          refine ((hS12.same (Chg.alloc _ _ _)).dev.append _ _ _ [UInt8.ofNat i] (made_i _ hlt) (fun b hb _ hf => by cases hb; have := hS12.dev.lt _ hf; simp at this) (by unfold maxLen; omega)).mono ?_
          rintro e w13 ⟨he, F13, C13, hD13, ho13⟩
          obtain ⟨hci3, hr3, hd3⟩ := HAP.out
          have hS13 := (hS12.same (Chg.alloc _ _ _)).step hD13 ho13
          have HCI3 := hide hci3
          clear hD13 ho13 hS12 HCI2 HAP hci3
          rcases hr3 with h | h | h
          · rw [h] at he
            subst he
            clear h hd3
            go_wp2_with fail
            go_roundw
            case rel => exact ⟨i + 1, _, F13, C13, by omega, by go_num, hS13, HCI3.out⟩
            case measure => simp [intOf]; omega
          · rw [h] at he
            subst he
            clear h hd3
            go_wp2_with fail
            go_roundw
            case rel => exact ⟨i + 1, _, F13, C13, by omega, by go_num, hS13, HCI3.out⟩
            case measure => simp [intOf]; omega
          · rw [h] at he
            subst he
            clear h hd3
            go_wp2_with fail
            go_roundw
            case rel => exact ⟨i + 1, _, F13, C13, by omega, by go_num, hS13, HCI3.out⟩
            case measure => simp [intOf]; omega
        · rw [h9] at he
          subst he
          clear h9
          have HDEAD := hide hdead; clear hdead
          go_wp2_with fail
          refine ((hS12.same (Chg.alloc _ _ _)).dev.append _ _ _ [UInt8.ofNat i] (made_i _ hlt) (fun b hb _ hf => by cases hb; have := hS12.dev.lt _ hf; simp at this) (by unfold maxLen; omega)).mono ?_
          rintro e w13 ⟨he, F13, C13, hD13, ho13⟩
          obtain ⟨hci3, hr3, hd3⟩ := HAP.out
          have hS13 := (hS12.same (Chg.alloc _ _ _)).step hD13 ho13
          have HCI3 := hide hci3
          clear hD13 ho13 hS12 HCI2 HAP hci3
          rw [hd3 HDEAD.out] at he
          subst he
          clear hr3 hd3
          · skip
            go_wp2_with fail
            go_roundw
            case rel => exact ⟨i + 1, _, F13, C13, by omega, by go_num, hS13, HCI3.out⟩
            case measure => simp [intOf]; omega
      · obtain rfl : i = 4 := by omega
        clear hfar hk hkn hfu
        obtain ⟨f1, f2, f3, f4, f5, f6, ⟨q, f7, f7'⟩, f8⟩ := HCI.out.crash hSL.dev.ok.certain ch
        have HF1 := hide f1; have HF2 := hide f2; have HF4 := hide f4; have HF5 := hide f5; have HF6 := hide f6; have HF7q := hide f7; have HF7r := hide f7'; have HF8 := hide f8
        have hLn : (ln : Int) ≤ ((m.crash ch).log.length : Int) := by rw [HLL.out]; omega
        clear f1 f2 f3 f4 f5 f6 f7 f7' f8
        go_wp2_with fail
        refine (hSL.dev.crash _ _ _ ch (hx.chg0 hSL.chg) (by have := HCI.out.cnt; omega)).mono ?_
        rintro e w14 ⟨ob, FX, CX, rfl, hX, hcc, -, -⟩
        have hS14 := hSL.same hcc
        clear hcc hSL HCI
        generalize m.crash ch = ml at hX HF1 HF2 HF4 HF5 HF6 HF7q HF7r HF8 hLn
        go_wp2_with fail
        refine (hX.crash _ _ _ ch (hx.chg0 hS14.chg) (by rw [HF8.out]; omega)).mono ?_
        rintro e w15 ⟨oa, FA, CA, rfl, hA, hcc, -, -⟩
        have hS15 := hS14.same hcc
        have hX15 := hX.chg0 hcc
        clear hcc hS14 hX
        generalize ml.crash ch = ma at hA HF6 HF7r
        go_wp2_with fail
        refine (hX15.read k).mono ?_
        rw [HF1.out]
        rintro e w16 (⟨_, rfl, rfl⟩ | ⟨hne, _⟩)
        rotate_left
        · exact absurd rfl hne
        simp only [HXL.out]
        have hP : BS (w15.alloc (.cells (bcells x).toArray 5)) (some ⟨w15.heap.size, 0, none⟩) 512 512 x := BS.newblock w15 x HXL.out.symm
        have hcc := Chg.alloc NoB w15 (.cells (bcells x).toArray 5)
        generalize w15.alloc (.cells (bcells x).toArray 5) = w16 at hP hcc ⊢
        generalize w15.heap.size = gp at hP ⊢
        have hS16 := hS15.same hcc
        have hX16 := hX15.chg0 hcc
        have hA16 := hA.chg0 hcc
        clear hcc hS15 hX15 hA
        go_wp2_with fail
        refine (hX16.log).mono ?_
        rw [HF2.out]
        rintro e w17 (⟨_, rfl, rfl⟩ | ⟨hne, _⟩)
        rotate_left
        · exact absurd rfl hne
        have hL : BS (w16.alloc (.cells (bcells ml.log).toArray 5)) (some ⟨w16.heap.size, 0, none⟩) ml.log.length ml.log.length ml.log := BS.newblock w16 ml.log rfl
        have hL2 : BS (w16.alloc (.cells (bcells ml.log).toArray 5)) (some ⟨w16.heap.size, 0, none⟩) ln ml.log.length log := BS.block (heap_alloc_new w16 _) HLL.out (by omega) (by rw [List.toList_toArray, ← bcells_take, HLL.out, HF4.out])
        have hcc := Chg.alloc NoB w16 (.cells (bcells ml.log).toArray 5)
        generalize w16.alloc (.cells (bcells ml.log).toArray 5) = w17 at hL hL2 hcc ⊢
        generalize w16.heap.size = gl at hL hL2 ⊢
        have hS17 := hS16.same hcc
        have hX17 := hX16.chg0 hcc
        have hA17 := hA16.chg0 hcc
        have hP17 := hP.chg0 hcc
        clear hcc hS16 hX16 hA16 hP
        have HF5' : Hid (ml.certain = ml.log.length) := HF5.out
        clear HF5
        go_wp2_with fail
        refine (hA17.read 5).mono ?_
        rw [HF7r.out]
        rintro e w18 (⟨_, rfl, rfl⟩ | ⟨hne, _⟩)
        rotate_left
        · exact absurd rfl hne
        have hQ : BS (w17.alloc (.cells (bcells q).toArray 5)) (some ⟨w17.heap.size, 0, none⟩) q.length q.length q := BS.newblock w17 q rfl
        have hcc := Chg.alloc NoB w17 (.cells (bcells q).toArray 5)
        generalize w17.alloc (.cells (bcells q).toArray 5) = w18 at hQ hcc ⊢
        generalize w17.heap.size = gq at hQ ⊢
        have hS18 := hS17.same hcc
        have hX18 := hX17.chg0 hcc
        have hA18 := hA17.chg0 hcc
        have hP18 := hP17.chg0 hcc
        have hL18 := hL.chg0 hcc
        have hL218 := hL2.chg0 hcc
        clear hcc hS17 hX17 hA17 hP17 hL hL2
        go_wp2_with fail
        refine (hX18.read 5).mono ?_
        rw [HF7q.out]
        rintro e w19 (⟨_, rfl, rfl⟩ | ⟨hne, _⟩)
        rotate_left
        · exact absurd rfl hne
        have hR : BS (w18.alloc (.cells (bcells q).toArray 5)) (some ⟨w18.heap.size, 0, none⟩) q.length q.length q := BS.newblock w18 q rfl
        have hcc := Chg.alloc NoB w18 (.cells (bcells q).toArray 5)
        generalize w18.alloc (.cells (bcells q).toArray 5) = w19 at hR hcc ⊢
        generalize w18.heap.size = gr at hR ⊢
        have hS19 := hS18.same hcc
        have hX19 := hX18.chg0 hcc
        have hA19 := hA18.chg0 hcc
        have hP19 := hP18.chg0 hcc
        have hL19 := hL18.chg0 hcc
        have hL219 := hL218.chg0 hcc
        have hQ19 := hQ.chg0 hcc
        clear hcc hS18 hX18 hA18 hP18 hL18 hL218 hQ
        go_wp2_with fail
        refine (hA19.log).mono ?_
        rw [HF6.out]
        rintro e w20 (⟨_, rfl, rfl⟩ | ⟨hne, _⟩)
        rotate_left
        · exact absurd rfl hne
        have hM : BS (w19.alloc (.cells (bcells ml.log).toArray 5)) (some ⟨w19.heap.size, 0, none⟩) ml.log.length ml.log.length ml.log := BS.newblock w19 ml.log rfl
        have hcc := Chg.alloc NoB w19 (.cells (bcells ml.log).toArray 5)
        generalize w19.alloc (.cells (bcells ml.log).toArray 5) = w20 at hM hcc ⊢
        generalize w19.heap.size = gm at hM ⊢
        have hS20 := hS19.same hcc
        have hX20 := hX19.chg0 hcc
        have hP20 := hP19.chg0 hcc
        have hL20 := hL19.chg0 hcc
        have hL220 := hL219.chg0 hcc
        have hQ20 := hQ19.chg0 hcc
        have hR20 := hR.chg0 hcc
        clear hcc hS19 hX19 hA19 hP19 hL19 hL219 hQ19 hR
        go_wp2_with fail
        have k1 := fun n => conv_str (hP20.drewN n)
        have k2 := fun n => conv_str ((HBX.out _ hS20.hg).drewN n)
        have k3 := fun n => conv_str (hL220.drewN n)
        have k4 := fun n => conv_str ((hl.chg0 hS20.chg).drewN n)
        have k5 := fun n => conv_str (hQ20.drewN n)
        have k6 := fun n => conv_str (hR20.drewN n)
        have k7 := fun n => conv_str (hM.drewN n)
        have k8 := fun n => conv_str (hL20.drewN n)
        have hcert : ∀ n, Calls Try.prog 24 #[.pointer (some ⟨ob, 0, none⟩)] (w20.drewN n) (fun e w' => e = .returned (.int .i64 ml.log.length) ∧ w' = w20.drewN n) := fun n =>
          ((hX20.chg0 (Chg.drewN _ _ n)).certain).mono fun e w' ⟨he, hw⟩ => ⟨by rw [he, HF5'.out], hw.symm⟩
        have HCERT := hide hcert
        have HS20 := hide hS20
        clear hcert hS20 hX20 hP20 hL20 hL220 hQ20 hR20 hM
        generalize hLL : ml.log.length = L at k3 k7 k8 HCERT hLn ⊢
        generalize q.length = lq at k5 k6 ⊢
        clear hLL
        go_quiet ((go_at_call 24; refine Calls.quiet_of_same (HCERT.out _)))
        clear k1 k2 k3 k4 k5 k6 k7 k8
        go_wp2_with fail
        go_ret
        exact ⟨rfl, HS20.out.chg.trans (Chg.drewN _ _ _)⟩
end Go.Proofs.Ythgejjlhfdegeaa
