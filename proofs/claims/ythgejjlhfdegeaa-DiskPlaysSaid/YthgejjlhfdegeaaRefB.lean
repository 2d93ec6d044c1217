/- The reference's device: a page, a reading. -/
import Derived.Test.YthgejjlhfdegeaaRef
namespace Go.Proofs.Ythgejjlhfdegeaa
open Go.RowKit Go.MapKept

theorem lastOf_append {α : Type} (a b : List (Nat × α)) (n : Nat) : lastOf (a ++ b) n = match lastOf b n with | some x => some x | none => lastOf a n := by
  induction a with
  | nil => simp only [List.nil_append, lastOf]; cases lastOf b n <;> rfl
  | cons x r ih =>
    obtain ⟨p, c⟩ := x
    simp only [List.cons_append, lastOf, ih]
    cases lastOf b n <;> rfl
theorem lastOf_drop_none {α : Type} {ws : List (Nat × α)} {n j : Nat} (hj : j < ws.length) (h : lastOf (ws.drop (j + 1)) n = none) (hne : ws[j].1 ≠ n) : lastOf (ws.drop j) n = none := by
  rw [List.drop_eq_getElem_cons hj]
  rcases e : ws[j] with ⟨p, c⟩
  rw [e] at hne
  simp only [lastOf, h]
  rw [if_neg hne]
theorem lastOf_drop_some {α : Type} {ws : List (Nat × α)} {n j : Nat} (hj : j < ws.length) (h : lastOf (ws.drop (j + 1)) n = none) (he : ws[j].1 = n) : lastOf ws n = some ws[j].2 := by
  have e1 : ws = ws.take j ++ ws.drop j := (List.take_append_drop j ws).symm
  have e2 : lastOf (ws.drop j) n = some ws[j].2 := by
    rw [List.drop_eq_getElem_cons hj]
    rcases e : ws[j] with ⟨p, c⟩
    rw [e] at he
    simp only [lastOf, h]
    rw [if_pos he]
  have h3 : lastOf (ws.take j ++ ws.drop j) n = some ws[j].2 := by rw [lastOf_append, e2]
  rwa [List.take_append_drop] at h3

theorem lastOf_drop_none' {α : Type} {ws : List (Nat × α)} {n j : Nat} {r : Nat × α} (hr : ws[j]? = some r) (h : lastOf (ws.drop (j + 1)) n = none) (hne : ¬ r.1 = n) : lastOf (ws.drop j) n = none := by
  obtain ⟨hj, rfl⟩ := List.getElem?_eq_some_iff.1 hr
  exact lastOf_drop_none hj h hne
theorem lastOf_drop_some' {α : Type} {ws : List (Nat × α)} {n j : Nat} {r : Nat × α} (hr : ws[j]? = some r) (h : lastOf (ws.drop (j + 1)) n = none) (he : r.1 = n) : lastOf ws n = some r.2 := by
  obtain ⟨hj, rfl⟩ := List.getElem?_eq_some_iff.1 hr
  exact lastOf_drop_some hj h he
theorem wcells_at {ws : List (Nat × List UInt8)} {vs : List Value} {j : Nat} {r : Nat × List UInt8} {v : Value} (hr : ws[j]? = some r) (hv : vs[j]? = some v) : (wcells ws vs)[j * 2]? = some (.int .i64 r.1) ∧ (wcells ws vs)[j * 2 + 1]? = some v := by
  have hz : (ws.zip vs)[j]? = some (r, v) := by rw [List.getElem?_zip_eq_some]; exact ⟨hr, hv⟩
  exact flat2 (fun x : (Nat × List UInt8) × Value => [.int .i64 x.1.1, x.2]) (fun _ => rfl) _ j (r, v) hz

/-- A function that returns a copy of what a page holds. -/
theorem CopRes.from {w w1 : World} {l : List UInt8} {e : Ending} {w' : World} (h : CopRes w1 l e w') (hc : Chg NoB w w1) : CopRes w l e w' := by
  obtain ⟨a, c, h1, h2, h3, h4⟩ := h
  exact ⟨a, c, h1, h2, hc.trans h3, fun b hb => Nat.le_trans hc.size (h4 b hb)⟩

set_option maxHeartbeats 1000000 in
set_option maxRecDepth 100000 in
theorem page_calls {w : World} {G : Nat → Prop} {m : DM} {L : RL} (h : RefAt w G m L) (n : Nat) (hn : n < m.base.length) (hwl : m.waiting.length ≤ 4611686018427387904) (hp : ∀ b ∈ m.base, b.length = 512) (hw : ∀ r ∈ m.waiting, r.2.length = 512) :
    Calls Try.prog 44 #[.agg (rcells m L), .int .i64 n] w (CopRes w (m.page n)) := by
  have hA := h.chg0 (Chg.alloc NoB w (.cells (rcells m L) 52))
  obtain ⟨ba, bc, pv, wa, wc, wv, la, lc, ma, mc, lp, ka, kn, kc, ta, tc⟩ := L
  simp only [rcells] at hA ⊢
  have HA := hide hA; clear hA h
  generalize hW : m.waiting = ws at HA hwl hw ⊢
  have hpg : ∀ o, lastOf ws n = o → m.page n = o.getD (m.base.getD n []) := fun o ho => by unfold DM.page; rw [hW, ho]
  have HPG := hide hpg; clear hpg
  have HW := hide hW; clear hW
  go_enter Try.func44, Try.ntmps44
  go_wp2_with fail
  go_loop [5] (fun v => ∃ k : Nat, k ≤ ws.length ∧ v = .int .i64 ((k : Int) - 1) ∧ lastOf (ws.drop k) n = none) (fun v => (intOf v + 1).toNat)
  case atStart => exact ⟨ws.length, Nat.le_refl _, rfl, by simp [lastOf]⟩
  case round =>
    obtain ⟨k, hk, rfl, hno⟩ := hrel
    cases k with
    | zero =>
      simp only [List.drop_zero] at hno
      have hpn := HPG.out _ hno
      have HPN := hide hpn; clear hpn hno
      have hb : m.base[n]? = some m.base[n] := List.getElem?_eq_getElem hn
      obtain ⟨v, hv, a, c, rfl, hbs, -⟩ := HA.out.page n _ hb
      obtain ⟨g, o, hba, hcell⟩ := HA.out.base.form (by omega) (by omega)
      simp only at hba hv
      subst hba
      have c0 := hcell n _ hv
      have hl : m.base[n].length = 512 := hp _ (List.getElem_mem hn)
      have hgd : m.base.getD n [] = m.base[n] := by simp [hn]
      rw [hgd, Option.getD_none] at HPN
      have HBS := hide hbs
      generalize m.base[n] = pg at c0 hl HPN HBS
      rw [hl] at c0 HBS
      clear hl
      clear hcell hv hb hbs hgd
      have hn' : (n : Int) < (m.base.length : Int) := by omega
      go_wp2_with fail
      refine (copied_calls _ _ _ pg _ HBS.out (by omega)).mono ?_
      rintro e w' hr
      obtain ⟨a', c', rfl, h2, h3, h4⟩ := hr.from (Chg.alloc NoB w _)
      go_wp2_with fail
      go_ret
      rw [HPN.out]
      exact ⟨a', c', rfl, h2, h3, h4⟩
    | succ j =>
      have hj : j < ws.length := hk
      have hcast : ((j + 1 : Nat) : Int) - 1 = (j : Int) := by omega
      rw [hcast]
      clear hcast
      obtain ⟨r, hr⟩ : ∃ r, ws[j]? = some r := ⟨ws[j], List.getElem?_eq_getElem hj⟩
      obtain ⟨v, hv, a, c, rfl, hbs, -⟩ := HA.out.wsv j r (by rw [HW.out]; exact hr)
      simp only at hv
      obtain ⟨g, o, hwa, hcell⟩ := HA.out.wait.form (by rw [HW.out]; omega) (by omega)
      simp only at hwa
      subst hwa
      have hx := wcells_at hr hv
      rw [HW.out] at hcell
      have c0 := hcell _ _ hx.1
      have c1 := hcell _ _ hx.2
      rw [← Nat.add_assoc] at c1
      have hl : r.2.length = 512 := hw _ (List.mem_of_getElem? hr)
      have HS1 := hide (fun hne => lastOf_drop_none' hr hno hne)
      have HS2 := hide (fun he => HPG.out _ (lastOf_drop_some' hr hno he))
      obtain ⟨rp, rb⟩ := r
      simp only at c0 c1 hl HS1 HS2 hbs
      rw [Option.getD_some] at HS2
      have HBS := hide hbs
      rw [hl] at c1 HBS
      have hj' : (j : Int) < (ws.length : Int) := by omega
      clear hcell hv hbs hx hr hno hl hk
      by_cases hrn : rp = n
      · subst hrn
        have HPN := hide (HS2.out rfl)
        clear HS1 HS2
        go_wp2_with fail
        refine (copied_calls _ _ _ rb _ HBS.out (by omega)).mono ?_
        rintro e w' hr
        obtain ⟨a', c', rfl, h2, h3, h4⟩ := hr.from (Chg.alloc NoB w _)
        go_wp2_with fail
        go_ret
        rw [HPN.out]
        exact ⟨a', c', rfl, h2, h3, h4⟩
      · have e0 : ((rp : Int) == (n : Int)) = false := beq_eq_false_iff_ne.2 (by omega)
        have HNO := hide (HS1.out hrn)
        clear HS1 HS2
        go_wp2_with fail
        go_round
        case rel => exact ⟨j, by omega, rfl, HNO.out⟩
        case measure => simp [intOf]

/-- What a reading tells, of the reference. -/
def RefRead (w : World) (r : List UInt8 × Int) (e : Ending) (w' : World) : Prop :=
  ∃ a c, e = .returned (.tuple #[.slice a r.1.length c, .int .i64 r.2]) ∧ BS w' a r.1.length c r.1 ∧ Chg NoB w w'

set_option maxRecDepth 100000 in
theorem readR_calls {w : World} {G : Nat → Prop} {m : DM} {L : RL} (h : RefAt w G m L) (n : Int) (hwl : m.waiting.length ≤ 4611686018427387904) (hok : m.Ok) :
    Calls Try.prog 33 #[.agg (rcells m L), .int .i64 n] w (RefRead w (m.read n)) := by
  have hA := h.chg0 (Chg.alloc NoB w (.cells (rcells m L) 52))
  by_cases hd : m.dead = true
  · have e : m.read n = ([], 9) := by simp [DM.read, hd]
    rw [e]
    simp only [rcells, hd]
    clear e hd hA h
    go_enter Try.func33, Try.ntmps33
    go_wp2_with fail
    go_ret2
    exact ⟨none, 0, rfl, BS.nil' _, Chg.alloc _ _ _⟩
  · have hd' : m.dead = false := by simpa using hd
    have hbl : m.base.length ≤ 65536 := hok.pages.2
    by_cases hn : m.has n = true
    · have hn' : 0 ≤ n ∧ n < (m.base.length : Int) := by simpa [DM.has] using hn
      obtain ⟨k, rfl⟩ := Int.eq_ofNat_of_zero_le hn'.1
      have hk : k < m.base.length := by omega
      have e : m.read (k : Int) = (m.page k, 0) := by simp [DM.read, hd', hn]
      rw [e]
      have HP := hide (page_calls hA k hk hwl hok.page (fun r hr => (hok.wait r hr).2))
      have hk' : (k : Int) < (m.base.length : Int) := hn'.2
      unfold rcells at HP ⊢
      simp only [hd'] at HP ⊢
      generalize m.base.length = bl at hk' hk HP ⊢
      clear hd hd' hn hn' e hA h hok hwl
      go_enter Try.func33, Try.ntmps33
      go_wp2_with fail
      refine HP.out.mono ?_
      rintro e w' hr
      obtain ⟨a', c', rfl, h2, h3, h4⟩ := hr.from (Chg.alloc NoB w _)
      go_wp2_with fail
      go_ret2
      exact ⟨a', c', rfl, BS.own h2, h3⟩
    · have hno : n < 0 ∨ (m.base.length : Int) ≤ n := by
        have : ¬ (0 ≤ n ∧ n < (m.base.length : Int)) := by simpa [DM.has] using hn
        omega
      have hn2 : m.has n = false := by simpa using hn
      have e : m.read n = ([], 1) := by simp [DM.read, hd', hn2]
      rw [e]
      simp only [rcells, hd']
      clear hd hd' hn hn2 e hA h hok hwl
      rcases hno with hno | hno
      · go_enter Try.func33, Try.ntmps33
        go_wp2_with fail
        go_ret2
        exact ⟨none, 0, rfl, BS.nil' _, Chg.alloc _ _ _⟩
      · have hno1 : ¬ n < 0 := by omega
        go_enter Try.func33, Try.ntmps33
        go_wp2_with fail
        go_ret2
        exact ⟨none, 0, rfl, BS.nil' _, Chg.alloc _ _ _⟩
end Go.Proofs.Ythgejjlhfdegeaa
