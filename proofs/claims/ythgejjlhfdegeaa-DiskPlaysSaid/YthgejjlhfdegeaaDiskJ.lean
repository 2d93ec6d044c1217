/- The device by its contracts; ones; awake. -/
import Derived.Test.YthgejjlhfdegeaaDiskI
namespace Go.Proofs.Ythgejjlhfdegeaa
open Go.RowKit Go.MapKept

set_option maxHeartbeats 400000
section
variable {w : World} {sb : Nat} {m : DM} {F C : Nat → Prop}

def HasRes (w : World) (v : Value) (e : Ending) (w' : World) : Prop := e = .returned v ∧ w = w'

theorem Disk.write (h : Disk w sb m F C) (n : Int) (ba : Option Addr) (bn bc : Nat) (l : List UInt8) (hb : BS w ba bn bc l) (hcnt : (m.waiting.length + 1) * 32 ≤ 140737488355328) :
    Calls Try.prog 12 #[.pointer (some ⟨sb, 0, none⟩), .int .i64 n, .slice ba bn bc] w (DRes w sb F C (m.write n l)) := by
  obtain ⟨L, h⟩ := h; exact write_calls h n ba bn bc l hb hcnt
theorem Disk.sync (h : Disk w sb m F C) : Calls Try.prog 23 #[.pointer (some ⟨sb, 0, none⟩)] w (DRes w sb F C m.sync) := by
  obtain ⟨L, h⟩ := h; exact sync_calls h
theorem Disk.append (h : Disk w sb m F C) (ba : Option Addr) (n c : Nat) (l : List UInt8) (hb : BS w ba n c l) (hbF : ∀ b, ba = some b → 0 < n → ¬ F b.block) (hmax : n ≤ maxLen) :
    Calls Try.prog 16 #[.pointer (some ⟨sb, 0, none⟩), .slice ba n c] w (DRes w sb F C (m.append l)) := by
  obtain ⟨L, h⟩ := h; exact append_calls h ba n c l hb hbF hmax
theorem Disk.force (h : Disk w sb m F C) : Calls Try.prog 17 #[.pointer (some ⟨sb, 0, none⟩)] w (DRes w sb F C m.force) := by
  obtain ⟨L, h⟩ := h; exact force_calls h
theorem Disk.cut (h : Disk w sb m F C) (n : Int) (ba : Option Addr) (bn bc : Nat) (l : List UInt8) (hb : BS w ba bn bc l) (hbF : ∀ b, ba = some b → 0 < bn → ¬ F b.block) :
    Calls Try.prog 27 #[.pointer (some ⟨sb, 0, none⟩), .int .i64 n, .slice ba bn bc] w (DRes w sb F C (m.cut n l)) := by
  obtain ⟨L, h⟩ := h; exact cut_calls h n ba bn bc l hb hbF
theorem Disk.trim (h : Disk w sb m F C) (n : Int) : Calls Try.prog 28 #[.pointer (some ⟨sb, 0, none⟩), .int .i64 n] w (DRes w sb F C (m.trim n)) := by
  obtain ⟨L, h⟩ := h; exact trim_calls h n
theorem Disk.mark (h : Disk w sb m F C) (ba : Option Addr) (n c : Nat) (l : List UInt8) (hb : BS w ba n c l) (hbF : ∀ b, ba = some b → 0 < n → ¬ F b.block) :
    Calls Try.prog 21 #[.pointer (some ⟨sb, 0, none⟩), .slice ba n c] w (DRes w sb F C (m.setMark l)) := by
  obtain ⟨L, h⟩ := h; exact mark_calls h ba n c l hb hbF
theorem Disk.read (h : Disk w sb m F C) (n : Int) : Calls Try.prog 15 #[.pointer (some ⟨sb, 0, none⟩), .int .i64 n] w (ReadPost w (m.read n)) := by
  obtain ⟨L, h⟩ := h; exact read_calls h n
theorem Disk.log (h : Disk w sb m F C) : Calls Try.prog 18 #[.pointer (some ⟨sb, 0, none⟩)] w (ReadPost w m.logR) := by
  obtain ⟨L, h⟩ := h; exact log_calls h
theorem Disk.marked (h : Disk w sb m F C) : Calls Try.prog 22 #[.pointer (some ⟨sb, 0, none⟩)] w (ReadPost w m.markR) := by
  obtain ⟨L, h⟩ := h; exact marked_calls h
theorem Disk.pages (h : Disk w sb m F C) : Calls Try.prog 29 #[.pointer (some ⟨sb, 0, none⟩)] w (HasRes w (.int .i64 m.base.length)) := by
  obtain ⟨L, h⟩ := h; exact pages_calls h
theorem Disk.room (h : Disk w sb m F C) : Calls Try.prog 30 #[.pointer (some ⟨sb, 0, none⟩)] w (HasRes w (.int .i64 m.room)) := by
  obtain ⟨L, h⟩ := h; exact room_calls h
theorem Disk.ops (h : Disk w sb m F C) : Calls Try.prog 26 #[.pointer (some ⟨sb, 0, none⟩)] w (HasRes w (.int .i64 m.ops)) := by
  obtain ⟨L, h⟩ := h; exact ops_calls h
theorem Disk.certain (h : Disk w sb m F C) : Calls Try.prog 24 #[.pointer (some ⟨sb, 0, none⟩)] w (HasRes w (.int .i64 m.certain)) := by
  obtain ⟨L, h⟩ := h; exact certain_calls h
theorem Disk.dead (h : Disk w sb m F C) : Calls Try.prog 20 #[.pointer (some ⟨sb, 0, none⟩)] w (HasRes w (.bool m.dead)) := by
  obtain ⟨L, h⟩ := h; exact dead_calls h
def FuseRes (w : World) (sb : Nat) (m : DM) (F C : Nat → Prop) (e : Ending) (w' : World) : Prop := e = .returned (.tuple #[]) ∧ Disk w' sb m F C ∧ Chg F w w'
theorem Disk.fuse (h : Disk w sb m F C) (n : Int) (hn : n ≤ 9223372036854775807) : Calls Try.prog 19 #[.pointer (some ⟨sb, 0, none⟩), .int .i64 n] w (FuseRes w sb (m.setFuse n) F C) := by
  obtain ⟨L, h⟩ := h
  exact (fuse_calls h n hn).mono fun _ _ ⟨he, hd, hc⟩ => ⟨he, ⟨L, hd⟩, h.chgF hc fun _ h => h⟩
/-- What Crash leaves: a device of its own, of new blocks. -/
def CrashRes (w : World) (C : Nat → Prop) (m : DM) (e : Ending) (w' : World) : Prop :=
  ∃ ob F' C', e = .returned (.pointer (some ⟨ob, 0, none⟩)) ∧ Disk w' ob m F' C' ∧ Chg NoB w w' ∧ (∀ k, F' k → w.heap.size ≤ k) ∧ ∀ k, C' k → C k ∨ w.heap.size ≤ k
theorem Disk.crash (h : Disk w sb m F C) (ca : Option Addr) (cn cc : Nat) (cl : List UInt8) (hb : BS w ca cn cc cl) (hwl : m.waiting.length ≤ 4611686018427387904) :
    Calls Try.prog 14 #[.pointer (some ⟨sb, 0, none⟩), .slice ca cn cc] w (CrashRes w C (m.crash cl)) := by
  obtain ⟨L, h⟩ := h; exact crash_calls h ca cn cc cl hb hwl
/-- A device made. -/
def NewRes (w : World) (m : DM) (e : Ending) (w' : World) : Prop :=
  e = .returned (.tuple #[.pointer (some ⟨w.heap.size + 2, 0, none⟩), .int .i64 0]) ∧ Disk w' (w.heap.size + 2) m (onlyNew w.heap.size) NoB ∧ Chg NoB w w' ∧ w'.heap.size = w.heap.size + 3
theorem new_disk (pages room : Nat) (w : World) (h1 : 1 ≤ pages) (h2 : pages ≤ 65536) (h3 : room ≤ 16777216) :
    Calls Try.prog 11 #[.int .i64 pages, .int .i64 room] w (NewRes w (DM.fresh pages room)) :=
  (new_ok pages room w h1 h2 h3).mono fun _ _ ⟨he, hd, hc, hs⟩ => ⟨he, ⟨_, hd⟩, hc, hs⟩
end

def ones512 : List UInt8 := List.replicate 512 1
theorem ones512_length : ones512.length = 512 := List.length_replicate

def onesTo (n k : Nat) : List UInt8 := List.replicate k 1 ++ List.replicate (n - k) 0
theorem onesTo_zero (n : Nat) : onesTo n 0 = List.replicate n 0 := by simp [onesTo]
theorem onesTo_all (n : Nat) : onesTo n n = List.replicate n 1 := by simp [onesTo]
theorem onesTo_length {n k : Nat} (h : k ≤ n) : (onesTo n k).length = n := by simp [onesTo]; omega
theorem onesTo_set {n k : Nat} (h : k < n) : (bcells (onesTo n k)).set k (.int .u8 1) = bcells (onesTo n (k + 1)) := by
  have e1 : n - k = (n - (k + 1)) + 1 := by omega
  unfold onesTo
  rw [e1, List.replicate_succ, List.replicate_succ']
  simp [bcells, bcell]

set_option maxRecDepth 100000 in
theorem ones_calls (w : World) : Calls Try.prog 13 #[] w fun e w' => e = .returned (.slice (some ⟨w.heap.size, 0, none⟩) 512 512) ∧ w.alloc (.cells (bcells ones512).toArray 5) = w' := by
  obtain ⟨iu, hu, hu0, hu1, hu2⟩ := info_parts infoU8
  go_enter Try.func13, Try.ntmps13
  go_wp2_with (at_make; refine wpList_mk rfl _ _ 28 rfl 5 iu (.int .u8 0) 1 1 Try.underlying28 hu hu0 hu1 hu2 .i64 .i64 512 512 rfl rfl (Nat.le_refl _) (by omega) (by unfold maxLen; omega) ?_)
  go_loopw [2] (fun i wr => ∃ k : Nat, k ≤ 512 ∧ i = .int .i64 k ∧ wr = w.alloc (.cells (bcells (onesTo 512 k)).toArray 5)) (fun i _ => 512 - (intOf i).toNat)
  case atStart => exact ⟨0, by omega, rfl, by rw [onesTo_zero, ← made_zeros]; rfl⟩
  case round =>
    obtain ⟨k, hk, rfl, rfl⟩ := hrel
    by_cases hlt : k < 512
    · have hc : ∃ v, (w.alloc (.cells (bcells (onesTo 512 k)).toArray 5)).cell? ⟨w.heap.size, k, none⟩ = some v := by
        rw [World.cell?_alloc_new]
        exact ⟨_, by simp only [List.getElem?_toArray]; exact List.getElem?_eq_getElem (by rw [bcells_length, onesTo_length hk]; exact hlt)⟩
      obtain ⟨v, hv⟩ := hc
      have HS := hide (onesTo_set hlt)
      generalize bcells (onesTo 512 k) = X at hv HS ⊢
      go_wp2_with fail
      go_roundw
      case rel => exact ⟨k + 1, by omega, by go_num, by rw [← HS.out]⟩
      case measure => simp [intOf]; omega
    · obtain rfl : k = 512 := by omega
      have HA := hide (onesTo_all 512)
      generalize onesTo 512 512 = X at HA ⊢
      go_wp2_with fail
      go_ret
      exact ⟨rfl, by rw [HA.out]; rfl⟩

/-- The strings that are compared. -/
def strOf (l : List UInt8) : ByteArray := ⟨l.toArray⟩
theorem conv_str {w : World} {xa : Option Addr} {n c : Nat} {l : List UInt8} (hb : BS w xa n c l) : (convert 28 9 (.slice xa n c)).run Try.prog w = .ok (.string (strOf l)) w :=
  run_str Try.underlying28 Try.underlying5 Try.underlying9 hb
theorem BS.newblock (w : World) (l : List UInt8) {n : Nat} (hn : n = l.length) : BS (w.alloc (.cells (bcells l).toArray 5)) (some ⟨w.heap.size, 0, none⟩) n n l :=
  BS.block (heap_alloc_new w _) hn (Nat.le_refl _) (by rw [hn]; simp [List.take_of_length_le, bcells_length])

def freshDisk : DM := DM.fresh 4 10
theorem fresh_write (l : List UInt8) (hl : l.length = 512) : ((DM.fresh 4 10).write 1 l).2 = 0 ∧ ((DM.fresh 4 10).write 1 l).1.read 1 = (l, 0) ∧ ((DM.fresh 4 10).write 1 l).1.base.length = 4 ∧ ((DM.fresh 4 10).write 1 l).1.room = 10 := by
  simp [DM.write, DM.fresh, DM.has, DM.count, hl, DM.read, DM.page, lastOf]

set_option linter.unusedSimpArgs false in
set_option maxHeartbeats 4000000 in
set_option maxRecDepth 100000 in
theorem awake_calls (w : World) : Calls Try.prog 10 #[] w fun e w' => e = .returned (.bool true) ∧ Chg NoB w w' := by
  obtain ⟨p1, p2, p3, p4⟩ := fresh_write ones512 ones512_length
  go_enter Try.func10, Try.ntmps10
  go_wp2_with fail
  refine (new_disk 4 10 _ (by omega) (by omega) (by omega)).mono ?_
  rintro e w1 ⟨rfl, h1, hc1, hs1⟩
  have HS1 := hide hs1; clear hs1
  go_wp2_with fail
  refine (ones_calls _).mono ?_
  rintro e w2 ⟨rfl, rfl⟩
  go_wp2_with fail
  refine ((h1.chg0 (Chg.alloc _ _ _)).write 1 _ _ _ ones512 (BS.newblock _ _ ones512_length.symm) (by simp [DM.fresh])).mono ?_
  rintro e w2 ⟨he, F2, C2, h2, ho2⟩
  rw [p1] at he
  subst he
  have hc2 : Chg NoB w w2 := (hc1.trans (Chg.alloc _ _ _)).trans' ho2.chg (fun i hi => .inr (by rcases hi with hi | hi | hi <;> omega))
  generalize ((DM.fresh 4 10).write 1 ones512).1 = m2 at h2 p2 p3 p4
  clear ho2 h1 hc1 HS1 p1
  have HP := hide p2; clear p2
  have HP3 := hide p3; clear p3
  have HP4 := hide p4; clear p4
  go_wp2_with fail
  refine (h2.read 1).mono ?_
  rw [HP.out]
  rintro e w3 (⟨_, rfl, rfl⟩ | ⟨hne, _⟩)
  · have hl : ones512.length = 512 := ones512_length
    rw [hl]
    have h3 := h2.chg0 (Chg.alloc NoB w2 (.cells (bcells ones512).toArray 5))
    have hB3 := BS.newblock w2 ones512 ones512_length.symm
    have hc3 : Chg NoB w (w2.alloc (.cells (bcells ones512).toArray 5)) := hc2.trans (Chg.alloc _ _ _)
    have hz3 : (w2.alloc (.cells (bcells ones512).toArray 5)).heap.size = w2.heap.size + 1 := by simp
    generalize w2.alloc (.cells (bcells ones512).toArray 5) = w3 at h3 hB3 hc3 hz3 ⊢
    have HZ := hide hz3; clear hz3 hl
    go_wp2_with fail
    have KS : ∀ w', Chg NoB w3 w' → (convert 28 9 (.slice (some ⟨w2.heap.size, 0, none⟩) 512 512)).run Try.prog w' = .ok (.string (strOf ones512)) w' := fun w' hc => conv_str (hB3.chg0 hc)
    have HKS := hide KS; clear KS
    have HD3 := hide (fun w' (hc : Chg NoB w3 w') => h3.chg0 hc)
    have K2 : ∀ w', Chg NoB (w3.alloc (.cells (bcells ones512).toArray 5)) w' → (convert 28 9 (.slice (some ⟨w3.heap.size, 0, none⟩) 512 512)).run Try.prog w' = .ok (.string (strOf ones512)) w' := fun w' hc => conv_str ((BS.newblock w3 ones512 ones512_length.symm).chg0 hc)
    have k2 := K2 _ (Chg.drew _ _)
    clear K2
    refine wp_region_held_drew (S := fun w' => (convert 28 9 (.slice (some ⟨w2.heap.size, 0, none⟩) 512 512)).run Try.prog w' = .ok (.string (strOf ones512)) w') (by kernel_rfl) (HKS.out _ (Chg.drew _ _)) (fun hHeld => ?_)
    refine wpAnyH_take (i := 0) (v := ?v0) rfl (by kernel_rfl) (by kernel_rfl) (by kernel_rfl) (fun _ _ _ h => h) (Or.inl ⟨by rfl, ?y0⟩) hHeld ?r0
    case y0 => (intro w hSw; (try dsimp only at hSw); go_simp; try with_reducible rfl)
    try simp only [Act.put, List.setIfInBounds_toArray, List.set_cons_zero, List.set_cons_succ, List.getElem_cons_zero, List.getElem_cons_succ, List.getElem_toArray]
    refine wpAnyH_take (i := 1) (v := ?v1) rfl (by kernel_rfl) (by kernel_rfl) (by kernel_rfl) (fun _ _ _ h => h) (Or.inl ⟨by rfl, ?y1⟩) hHeld ?r1
    case y1 => (intro w hSw; (try dsimp only at hSw); go_simp; try with_reducible rfl)
    try simp only [Act.put, List.setIfInBounds_toArray, List.set_cons_zero, List.set_cons_succ, List.getElem_cons_zero, List.getElem_cons_succ, List.getElem_toArray]
    refine wpAnyH_take (i := 2) (v := ?v2) rfl (by kernel_rfl) (by kernel_rfl) (by kernel_rfl) (fun _ _ _ h => h) (Or.inl ⟨by rfl, ?y2⟩) hHeld ?r2
    case y2 => (intro w hSw; (try dsimp only at hSw); go_simp; try with_reducible rfl)
    try simp only [Act.put, List.setIfInBounds_toArray, List.set_cons_zero, List.set_cons_succ, List.getElem_cons_zero, List.getElem_cons_succ, List.getElem_toArray]
    refine wpAnyH_take (i := 3) (v := ?v3) rfl (by kernel_rfl) (by kernel_rfl) (by kernel_rfl) (fun _ _ _ h => h) (Or.inl ⟨by rfl, ?y3⟩) hHeld ?r3
    case y3 => (intro w hSw; (try dsimp only at hSw); go_simp; try with_reducible rfl)
    try simp only [Act.put, List.setIfInBounds_toArray, List.set_cons_zero, List.set_cons_succ, List.getElem_cons_zero, List.getElem_cons_succ, List.getElem_toArray]
    refine wpAnyH_take (i := 4) (v := ?v4) rfl (by kernel_rfl) (by kernel_rfl) (by kernel_rfl) (fun _ _ _ h => h) (Or.inl ⟨by rfl, ?y4⟩) hHeld ?r4
    case y4 => (intro w hSw; (try dsimp only at hSw); go_simp; try with_reducible rfl)
    try simp only [Act.put, List.setIfInBounds_toArray, List.set_cons_zero, List.set_cons_succ, List.getElem_cons_zero, List.getElem_cons_succ, List.getElem_toArray]
    refine wpAnyH_take (i := 5) (v := ?v5) rfl (by kernel_rfl) (by kernel_rfl) (by kernel_rfl) (fun _ _ _ h => h) (Or.inl ⟨by rfl, ?y5⟩) hHeld ?r5
    case y5 => (intro w hSw; (try dsimp only at hSw); go_simp; try with_reducible rfl)
    try simp only [Act.put, List.setIfInBounds_toArray, List.set_cons_zero, List.set_cons_succ, List.getElem_cons_zero, List.getElem_cons_succ, List.getElem_toArray]
    refine wpAnyH_take (i := 6) (v := ?v6) rfl (by kernel_rfl) (by kernel_rfl) (by kernel_rfl) (fun _ _ _ h => h) (Or.inl ⟨by rfl, ?y6⟩) hHeld ?r6
    case y6 => (intro w hSw; (try dsimp only at hSw); go_simp; try with_reducible rfl)
    try simp only [Act.put, List.setIfInBounds_toArray, List.set_cons_zero, List.set_cons_succ, List.getElem_cons_zero, List.getElem_cons_succ, List.getElem_toArray]
    refine wpAnyH_take (i := 7) (v := ?v7) rfl (by kernel_rfl) (by kernel_rfl) (by kernel_rfl) (fun _ _ _ h => h) (Or.inl ⟨by rfl, ?y7⟩) hHeld ?r7
    case y7 => (intro w hSw; (try dsimp only at hSw); go_simp; try with_reducible rfl)
    try simp only [Act.put, List.setIfInBounds_toArray, List.set_cons_zero, List.set_cons_succ, List.getElem_cons_zero, List.getElem_cons_succ, List.getElem_toArray]
    refine wpAnyH_take (i := 8) (v := ?v8) rfl (by kernel_rfl) (by kernel_rfl) (by kernel_rfl) (fun _ _ _ h => h) (Or.inl ⟨by rfl, ?y8⟩) hHeld ?r8
    case y8 => (intro w hSw; (try dsimp only at hSw); go_simp; try with_reducible rfl)
    try simp only [Act.put, List.setIfInBounds_toArray, List.set_cons_zero, List.set_cons_succ, List.getElem_cons_zero, List.getElem_cons_succ, List.getElem_toArray]
    refine wpAnyH_ready (rs := [9]) (by kernel_rfl) (by simp) ?_
    refine AllReadyH.cons rfl (fun K hK => ?_) AllReadyH.nil
    go_simp
    refine (ones_calls _).mono ?_; rintro e w' ⟨rfl, rfl⟩
    refine hK.out _ _ (by first | exact HKS.out _ (Chg.drew _ _) | exact HKS.out _ ((Chg.alloc _ _ _).trans (Chg.drew _ _))) (fun hHeld => ?_)
    clear hK K
    try simp only [Act.put, List.setIfInBounds_toArray, List.set_cons_zero, List.set_cons_succ, List.getElem_cons_zero, List.getElem_cons_succ, List.getElem_toArray]
    refine wpAnyH_ready (rs := [10]) (by kernel_rfl) (by simp) ?_
    refine AllReadyH.cons rfl (fun K hK => ?_) AllReadyH.nil
    go_simp
    refine hK.out _ _ (by first | exact HKS.out _ (Chg.drew _ _) | exact HKS.out _ ((Chg.alloc _ _ _).trans (Chg.drew _ _))) (fun hHeld => ?_)
    clear hK K
    try simp only [Act.put, List.setIfInBounds_toArray, List.set_cons_zero, List.set_cons_succ, List.getElem_cons_zero, List.getElem_cons_succ, List.getElem_toArray]
    refine wpAnyH_take (i := 11) (v := ?v11) rfl (by kernel_rfl) (by kernel_rfl) (by kernel_rfl) (fun _ _ _ h => h) (Or.inl ⟨by rfl, ?y11⟩) hHeld ?r11
    case y11 => (intro w hSw; (try dsimp only at hSw); go_simp; try with_reducible rfl)
    try simp only [Act.put, List.setIfInBounds_toArray, List.set_cons_zero, List.set_cons_succ, List.getElem_cons_zero, List.getElem_cons_succ, List.getElem_toArray]
    refine wpAnyH_take (i := 12) (v := ?v12) rfl (by kernel_rfl) (by kernel_rfl) (by kernel_rfl) (fun _ _ _ h => h) (Or.inl ⟨by rfl, ?y12⟩) hHeld ?r12
    case y12 => (intro w hSw; (try dsimp only at hSw); go_simp; try with_reducible rfl)
    try simp only [Act.put, List.setIfInBounds_toArray, List.set_cons_zero, List.set_cons_succ, List.getElem_cons_zero, List.getElem_cons_succ, List.getElem_toArray]
    refine wpAnyH_take (i := 13) (v := ?v13) rfl (by kernel_rfl) (by kernel_rfl) (by kernel_rfl) (fun _ _ _ h => h) (Or.inl ⟨by rfl, ?y13⟩) hHeld ?r13
    case y13 => (intro w hSw; (try dsimp only at hSw); go_simp; try with_reducible rfl)
    try simp only [Act.put, List.setIfInBounds_toArray, List.set_cons_zero, List.set_cons_succ, List.getElem_cons_zero, List.getElem_cons_succ, List.getElem_toArray]
    refine wpAnyH_take (i := 14) (v := ?v14) rfl (by kernel_rfl) (by kernel_rfl) (by kernel_rfl) (fun _ _ _ h => h) (Or.inl ⟨by rfl, ?y14⟩) hHeld ?r14
    case y14 => (intro w hSw; (try dsimp only at hSw); go_simp; try with_reducible rfl)
    try simp only [Act.put, List.setIfInBounds_toArray, List.set_cons_zero, List.set_cons_succ, List.getElem_cons_zero, List.getElem_cons_succ, List.getElem_toArray]
    refine wpAnyH_ready (rs := [15]) (by kernel_rfl) (by simp) ?_
    refine AllReadyH.cons rfl (fun K hK => ?_) AllReadyH.nil
    go_simp
    refine (HD3.out _ ((Chg.alloc _ _ _).trans (Chg.drew _ _))).pages.mono ?_; rintro e w' ⟨he, rfl⟩; rw [HP3.out] at he; subst he
    refine hK.out _ _ (by first | exact HKS.out _ (Chg.drew _ _) | exact HKS.out _ ((Chg.alloc _ _ _).trans (Chg.drew _ _))) (fun hHeld => ?_)
    clear hK K
    try simp only [Act.put, List.setIfInBounds_toArray, List.set_cons_zero, List.set_cons_succ, List.getElem_cons_zero, List.getElem_cons_succ, List.getElem_toArray]
    refine wpAnyH_take (i := 16) (v := ?v16) rfl (by kernel_rfl) (by kernel_rfl) (by kernel_rfl) (fun _ _ _ h => h) (Or.inl ⟨by rfl, ?y16⟩) hHeld ?r16
    case y16 => (intro w hSw; (try dsimp only at hSw); go_simp; try with_reducible rfl)
    try simp only [Act.put, List.setIfInBounds_toArray, List.set_cons_zero, List.set_cons_succ, List.getElem_cons_zero, List.getElem_cons_succ, List.getElem_toArray]
    refine wpAnyH_take (i := 17) (v := ?v17) rfl (by kernel_rfl) (by kernel_rfl) (by kernel_rfl) (fun _ _ _ h => h) (Or.inl ⟨by rfl, ?y17⟩) hHeld ?r17
    case y17 => (intro w hSw; (try dsimp only at hSw); go_simp; try with_reducible rfl)
    try simp only [Act.put, List.setIfInBounds_toArray, List.set_cons_zero, List.set_cons_succ, List.getElem_cons_zero, List.getElem_cons_succ, List.getElem_toArray]
    refine wpAnyH_take (i := 18) (v := ?v18) rfl (by kernel_rfl) (by kernel_rfl) (by kernel_rfl) (fun _ _ _ h => h) (Or.inl ⟨by rfl, ?y18⟩) hHeld ?r18
    case y18 => (intro w hSw; (try dsimp only at hSw); go_simp; try with_reducible rfl)
    try simp only [Act.put, List.setIfInBounds_toArray, List.set_cons_zero, List.set_cons_succ, List.getElem_cons_zero, List.getElem_cons_succ, List.getElem_toArray]
    refine wpAnyH_take (i := 19) (v := ?v19) rfl (by kernel_rfl) (by kernel_rfl) (by kernel_rfl) (fun _ _ _ h => h) (Or.inl ⟨by rfl, ?y19⟩) hHeld ?r19
    case y19 => (intro w hSw; (try dsimp only at hSw); go_simp; try with_reducible rfl)
    try simp only [Act.put, List.setIfInBounds_toArray, List.set_cons_zero, List.set_cons_succ, List.getElem_cons_zero, List.getElem_cons_succ, List.getElem_toArray]
    refine wpAnyH_ready (rs := [20]) (by kernel_rfl) (by simp) ?_
    refine AllReadyH.cons rfl (fun K hK => ?_) AllReadyH.nil
    go_simp
    refine (HD3.out _ ((Chg.alloc _ _ _).trans (Chg.drew _ _))).room.mono ?_; rintro e w' ⟨he, rfl⟩; rw [HP4.out] at he; subst he
    refine hK.out _ _ (by first | exact HKS.out _ (Chg.drew _ _) | exact HKS.out _ ((Chg.alloc _ _ _).trans (Chg.drew _ _))) (fun hHeld => ?_)
    clear hK K
    try simp only [Act.put, List.setIfInBounds_toArray, List.set_cons_zero, List.set_cons_succ, List.getElem_cons_zero, List.getElem_cons_succ, List.getElem_toArray]
    refine wpAnyH_take (i := 21) (v := ?v21) rfl (by kernel_rfl) (by kernel_rfl) (by kernel_rfl) (fun _ _ _ h => h) (Or.inl ⟨by rfl, ?y21⟩) hHeld ?r21
    case y21 => (intro w hSw; (try dsimp only at hSw); go_simp; try with_reducible rfl)
    try simp only [Act.put, List.setIfInBounds_toArray, List.set_cons_zero, List.set_cons_succ, List.getElem_cons_zero, List.getElem_cons_succ, List.getElem_toArray]
    refine wpAnyH_take (i := 22) (v := ?v22) rfl (by kernel_rfl) (by kernel_rfl) (by kernel_rfl) (fun _ _ _ h => h) (Or.inl ⟨by rfl, ?y22⟩) hHeld ?r22
    case y22 => (intro w hSw; (try dsimp only at hSw); go_simp; try with_reducible rfl)
    try simp only [Act.put, List.setIfInBounds_toArray, List.set_cons_zero, List.set_cons_succ, List.getElem_cons_zero, List.getElem_cons_succ, List.getElem_toArray]
    refine wpAnyH_take (i := 23) (v := ?v23) rfl (by kernel_rfl) (by kernel_rfl) (by kernel_rfl) (fun _ _ _ h => h) (Or.inl ⟨by rfl, ?y23⟩) hHeld ?r23
    case y23 => (intro w hSw; (try dsimp only at hSw); go_simp; try with_reducible rfl)
    try simp only [Act.put, List.setIfInBounds_toArray, List.set_cons_zero, List.set_cons_succ, List.getElem_cons_zero, List.getElem_cons_succ, List.getElem_toArray]
    refine wpAnyH_done (by kernel_rfl) ?_ _
    all_goals
      go_wp2_with fail
      go_ret
      exact ⟨by simp, hc3.trans ((Chg.alloc _ _ _).trans (Chg.drew _ _))⟩
  · exact absurd rfl hne
end Go.Proofs.Ythgejjlhfdegeaa
