/- The device's methods, walked: Read. -/
import Derived.Test.YthgejjlhfdegeaaDiskD
import Derived.WalkSpells
namespace Go.Proofs.Ythgejjlhfdegeaa
open Go.RowKit Go.MapKept

set_option maxHeartbeats 400000
section
variable {w : World} {sb : Nat} {m : DM} {L : DL} {F C : Nat → Prop}

theorem zeroPg (w : World) : (zeroValue 28).run Try.prog w = .ok (.slice none 0 0) w := by kernel_rfl

theorem made_noughts (n : Nat) : bcells (List.replicate n 0) = (madeCells #[.int .u8 0] n).toList := by
  apply List.ext_getElem?
  intro j
  simp only [bcells, List.getElem?_map, madeCells, Array.getElem?_toList, Array.getElem?_map]
  by_cases hj : j < n
  · simp [hj, bcell, Nat.mod_one]
  · simp [hj]
theorem made_zeros : (bcells zeros512).toArray = madeCells #[.int .u8 0] 512 := by
  unfold zeros512; rw [made_noughts]

theorem read_calls (h : DiskL w sb m L F C) (n : Int) : Calls Try.prog 15 #[.pointer (some ⟨sb, 0, none⟩), .int .i64 n] w (ReadPost w (m.read n)) := by
  have c9 := h.cell 9 (v := .bool m.dead) rfl
  have c1 := h.cell 1 (v := .slice (some ⟨L.pb, 0, none⟩) m.base.length m.base.length) rfl
  have c3 := h.cell 3 (v := .map (some L.mb)) rfl
  cases hd : m.dead
  · rw [hd] at c9
    cases hh : m.has n
    · have e1 : m.read n = ([], 1) := by simp [DM.read, hd, hh]
      rw [e1]; clear e1
      have HD := hide hd; clear hd
      have HH := hide hh; clear hh
      go_enter Try.func15, Try.ntmps15
      go_wp2_with (go_at_call 37; refine (has_calls h n).mono ?_; rintro e w1 ⟨he, rfl⟩; rw [HH.out] at he; subst he)
      go_ret2
      exact .inr ⟨by simp, rfl, rfl, rfl⟩
    · have hn := hh
      simp only [DM.has, decide_eq_true_eq] at hn
      obtain ⟨hn0, hn1⟩ := hn
      obtain ⟨k, rfl⟩ := Int.eq_ofNat_of_zero_le hn0
      have hk : k < m.base.length := by omega
      have e1 : m.read (k : Int) = (m.page k, 0) := by simp [DM.read, hd, hh]
      rw [e1]; clear e1
      have HD := hide hd; clear hd
      have HH := hide hh; clear hh
      have hnow := h.mem.now k
      have hpl : L.ps.length = m.base.length := by rw [h.mem.psl]; simp
      cases hlo : lastOf (L.ws.map fun r => (r.page, r)) k with
      | some r =>
        have hr : r ∈ L.ws := by
          have := lastOf_mem hlo
          obtain ⟨r', hr', he⟩ := List.mem_map.1 this
          simp only [Prod.mk.injEq] at he
          rw [← he.2]; exact hr'
        have hB := (h.mem.wsv r hr).1
        have hlv : L.mp k = some r.v := by rw [hnow]; simp [nowOf, hlo]
        have hpg : m.page k = r.l := by
          have e2 := lastOf_map WR.l (L.ws.map fun r => (r.page, r)) k
          rw [List.map_map, hlo] at e2
          have e3 : m.waiting = L.ws.map ((fun r => (r.1, WR.l r.2)) ∘ fun r => (r.page, r)) := h.mem.wsl
          simp only [DM.page, e3, e2]; rfl
        rw [hpg]
        have hpl2 := hB.len
        have HB := hide hB.len
        clear hpl2 hpl hnow hpg hlo
        have HV := hide hlv; clear hlv
        have heql := fun (w : World) (a : Option Addr) (l c : Nat) => Lib.run_eql_slice_nil (P := Try.prog) w 28 5 a l c 0 0 Try.underlying28
        go_enter Try.func15, Try.ntmps15
        go_wp2_with (first | (go_at_call 37; refine (has_calls h _).mono ?_; rintro e w1 ⟨he, rfl⟩; rw [HH.out] at he; subst he) | (at_lookup; refine wpList_look_some rfl (.tmp 22) (.tmp 23) 63 rfl 3 28 (.slice none 0 0) Try.underlying63 Try.underlying3 encI_key zeroPg L.mb rfl h.mem.map (k : Int) rfl (.slice (some r.a) 512 r.c) HV.out ?_) | (go_at_call 38; refine (clone_calls _ _ _ _ _ hB (by omega)).mono ?_; rintro e w1 ⟨rfl, rfl⟩))
        go_ret2
        exact .inl ⟨rfl, by rw [← HB.out]; rfl, rfl⟩
      | none =>
        have hlv : L.mp k = none := by rw [hnow]; simp [nowOf, hlo]
        have hpg : m.page k = m.base.getD k [] := by
          have e2 := lastOf_map WR.l (L.ws.map fun r => (r.page, r)) k
          rw [List.map_map, hlo] at e2
          have e3 : m.waiting = L.ws.map ((fun r => (r.1, WR.l r.2)) ∘ fun r => (r.page, r)) := h.mem.wsl
          simp only [DM.page, e3, e2]; rfl
        have hkp : k < L.ps.length := by omega
        have hcell : w.cell? ⟨L.pb, k, none⟩ = some (L.ps[k]'hkp).v := by
          rw [cell_of_row w L.pb k _ _ _ h.mem.pages]; simp [hkp]
        have hbl : m.base.getD k [] = (L.ps[k]'hkp).l := by rw [h.mem.psl]; simp [List.getD, hkp]
        rw [hpg, hbl]
        have hat := h.mem.psv _ (List.getElem_mem hkp)
        generalize L.ps[k]'hkp = r at hcell hat ⊢
        clear hpl hnow hpg hlo hbl
        have HV := hide hlv; clear hlv
        have heql := fun (w : World) (a : Option Addr) (l c : Nat) => Lib.run_eql_slice_nil (P := Try.prog) w 28 5 a l c 0 0 Try.underlying28
        obtain ⟨i0, hi, hz0, hz1, hz2⟩ := info_parts infoU8
        rcases hat with ⟨hv, hl⟩ | ⟨pa, pc, hv, hB, hC⟩
        · rw [hv] at hcell
          have HL := hide hl; clear hl hv
          go_enter Try.func15, Try.ntmps15
          go_wp2_with (first | (go_at_call 37; refine (has_calls h _).mono ?_; rintro e w1 ⟨he, rfl⟩; rw [HH.out] at he; subst he) | (at_lookup; refine wpList_look_none rfl (.tmp 22) (.tmp 23) 63 rfl 3 28 (.slice none 0 0) Try.underlying63 Try.underlying3 encI_key zeroPg L.mb rfl h.mem.map (k : Int) rfl HV.out ?_) | (at_make; refine wpList_mk rfl _ _ 28 rfl 5 i0 (.int .u8 0) 1 1 Try.underlying28 hi hz0 hz1 hz2 .i64 .i64 512 512 rfl rfl (Nat.le_refl _) (by omega) (by unfold maxLen; omega) ?_))
          go_ret2
          rw [HL.out]
          exact .inl ⟨rfl, by rw [zeros512_length]; rfl, by rw [made_zeros]⟩
        · rw [hv] at hcell
          have HB := hide hB.len
          clear hv
          go_enter Try.func15, Try.ntmps15
          go_wp2_with (first | (go_at_call 37; refine (has_calls h _).mono ?_; rintro e w1 ⟨he, rfl⟩; rw [HH.out] at he; subst he) | (at_lookup; refine wpList_look_none rfl (.tmp 22) (.tmp 23) 63 rfl 3 28 (.slice none 0 0) Try.underlying63 Try.underlying3 encI_key zeroPg L.mb rfl h.mem.map (k : Int) rfl HV.out ?_) | (go_at_call 38; refine (clone_calls _ _ _ _ _ hB (by omega)).mono ?_; rintro e w1 ⟨rfl, rfl⟩))
          go_ret2
          exact .inl ⟨rfl, by rw [← HB.out]; rfl, rfl⟩
  · rw [hd] at c9
    have e1 : m.read n = ([], 9) := by simp [DM.read, hd]
    rw [e1]; clear e1
    have HD := hide hd; clear hd
    go_enter Try.func15, Try.ntmps15
    go_wp2_with fail
    go_ret2
    exact .inr ⟨by simp, rfl, rfl, rfl⟩
end
end Go.Proofs.Ythgejjlhfdegeaa
