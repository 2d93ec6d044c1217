/- Ask: a new place. -/
import Derived.Test.YtjnbbmchmkiodaaLkG
namespace Go.Proofs.Ytjnbbmchmkiodaa
open Go.RowKit Go.MapKept

set_option linter.unusedSimpArgs false
theorem eql_nilptr : True := trivial
set_option maxHeartbeats 2000000 in
set_option maxRecDepth 100000 in
theorem ask_new {w : World} {tb : Nat} {m : TM} {L : TL} {ρ : Nat → Role} (h : Tab w tb m L ρ) (o : Int) (s : ByteArray) (md : Int) (h0 : ¬ o = 0) (e1 : isM md = true) (hg : m.waits o = none) (hp : m.pl s = none) :
    Calls Try.prog 17 #[.pointer (some ⟨tb, 0, none⟩), .int .u64 o, .string s, .int .i64 md] w (AskR w tb (0, (m.newPlace s).hold s PlM.empty o md) ρ) := by
  have c1 : w.cell? ⟨tb, 1, none⟩ = some (.map (some L.tw)) := by rw [cell_of_row w _ _ _ _ _ h.blk]; rfl
  have c0 : w.cell? ⟨tb, 0, none⟩ = some (.map (some L.tp)) := by rw [cell_of_row w _ _ _ _ _ h.blk]; rfl
  have htb := heap_lt h.blk
  have c0a : (w.alloc (.cells #[.string ⟨#[]⟩, .int .i64 0] 33)).cell? ⟨tb, 0, none⟩ = some (.map (some L.tp)) := ((Chg.alloc NoB w _).cell htb (fun f => f)).trans c0
  have hmm := @run_makeMap Try.prog
  have hM := h.mw
  have hl : waitsF m o = none := by simp [waitsF, hg]
  have hP := h.mp.chg (Chg.alloc NoB w (.cells #[.string ⟨#[]⟩, .int .i64 0] 33)) (fun f => f)
  have hl2 : (placesF m L s).getD (.pointer none) = .pointer none := by simp [placesF, hp]
  have HM := hide hM; have HL := hide hl; have HP := hide hP; have HL2 := hide hl2; have HPL := hide hp; clear hM hg hl hP hl2 hp
  have e0 : (o == 0) = false := by simp [h0]
  clear h0
  have HH := hide h; clear h
  go_enter Try.func17, Try.ntmps17
  go_wp2_with fail
  refine (isMode_calls md w).mono ?_
  rw [e1]
  rintro e w1 ⟨rfl, rfl⟩
  go_wp2_with (first | (at_lookup; refine wpList_look_none rfl (.tmp 26) (.tmp 27) 63 rfl 29 33 (.agg #[.string ⟨#[]⟩, .int .i64 0]) Try.underlying63 Try.underlying29 encU_key zeroGr L.tw rfl HM.out o rfl HL.out ?_) | (at_lookup; refine wpList_look1 rfl (.tmp 35) (.tmp 36) 62 rfl 9 67 (.pointer none) Try.underlying62 Try.underlying9 encS_key zeroPl L.tp rfl HP.out s rfl _ HL2.out ?_))
  have hcW : Chg NoB w ((((w.alloc (.cells #[.string ⟨#[]⟩, .int .i64 0] 33)).alloc (.cells #[.pointer (some ⟨w.heap.size + 1 + 1 + 1, 0, none⟩)] 67)).alloc (.map #[] 0)).alloc (.cells #[.map (some (w.heap.size + 1 + 1)), .slice none 0 0] 71)) := (((Chg.alloc _ _ _).trans (Chg.alloc _ _ _)).trans (Chg.alloc _ _ _)).trans (Chg.alloc _ _ _)
  have hblk : (World.heap ((((w.alloc (.cells #[.string ⟨#[]⟩, .int .i64 0] 33)).alloc (.cells #[.pointer (some ⟨w.heap.size + 1 + 1 + 1, 0, none⟩)] 67)).alloc (.map #[] 0)).alloc (.cells #[.map (some (w.heap.size + 1 + 1)), .slice none 0 0] 71)))[w.heap.size + 1 + 1 + 1]? = some (.cells #[.map (some (w.heap.size + 1 + 1)), .slice none 0 0] 71 (0, 0)) := heap_alloc_new' _ (by simp) _
  have hmap : MapAt ((((w.alloc (.cells #[.string ⟨#[]⟩, .int .i64 0] 33)).alloc (.cells #[.pointer (some ⟨w.heap.size + 1 + 1 + 1, 0, none⟩)] 67)).alloc (.map #[] 0)).alloc (.cells #[.map (some (w.heap.size + 1 + 1)), .slice none 0 0] 71)) (w.heap.size + 1 + 1) (.int .u64) encU (fun _ => none) := by
    have := (MapAt.made ((w.alloc (.cells #[.string ⟨#[]⟩, .int .i64 0] 33)).alloc (.cells #[.pointer (some ⟨w.heap.size + 1 + 1 + 1, 0, none⟩)] 67)) (.int .u64) encU).chg (Chg.alloc NoB _ (.cells #[.map (some (w.heap.size + 1 + 1)), .slice none 0 0] 71)) (fun f => f)
    simp only [World.size_alloc] at this
    exact this
  have htc : World.cell? ((((w.alloc (.cells #[.string ⟨#[]⟩, .int .i64 0] 33)).alloc (.cells #[.pointer (some ⟨w.heap.size + 1 + 1 + 1, 0, none⟩)] 67)).alloc (.map #[] 0)).alloc (.cells #[.map (some (w.heap.size + 1 + 1)), .slice none 0 0] 71)) ⟨w.heap.size + 1, 0, none⟩ = some (.pointer (some ⟨w.heap.size + 1 + 1 + 1, 0, none⟩)) := by go_simp
  have hsz : w.heap.size + 4 ≤ (World.heap ((((w.alloc (.cells #[.string ⟨#[]⟩, .int .i64 0] 33)).alloc (.cells #[.pointer (some ⟨w.heap.size + 1 + 1 + 1, 0, none⟩)] 67)).alloc (.map #[] 0)).alloc (.cells #[.map (some (w.heap.size + 1 + 1)), .slice none 0 0] 71))).size := by simp
  have hszd : w.heap.size + 4 ≤ (World.heap (World.drew ((((w.alloc (.cells #[.string ⟨#[]⟩, .int .i64 0] 33)).alloc (.cells #[.pointer (some ⟨w.heap.size + 1 + 1 + 1, 0, none⟩)] 67)).alloc (.map #[] 0)).alloc (.cells #[.map (some (w.heap.size + 1 + 1)), .slice none 0 0] 71)))).size := hsz
  generalize ((((w.alloc (.cells #[.string ⟨#[]⟩, .int .i64 0] 33)).alloc (.cells #[.pointer (some ⟨w.heap.size + 1 + 1 + 1, 0, none⟩)] 67)).alloc (.map #[] 0)).alloc (.cells #[.map (some (w.heap.size + 1 + 1)), .slice none 0 0] 71)) = w4 at hcW hblk hmap htc hsz hszd ⊢
  have hM4 := (HH.out.mp.chg hcW (fun f => f)).chg (Chg.drew NoB w4) (fun f => f)
  have HKEEP : Hid ((fun w' : World => w'.cell? ⟨tb, 0, none⟩ = some (.map (some L.tp)) ∧ w'.cell? ⟨w.heap.size + 1, 0, none⟩ = some (.pointer (some ⟨w.heap.size + 1 + 1 + 1, 0, none⟩))) w4.drew) := hide ⟨(((hcW.trans (Chg.drew _ _)).cell htb (fun f => f)).trans c0), ((Chg.drew NoB w4).cell (cell_some htc).1 (fun f => f)).trans htc⟩
  refine AnyM.region (S := fun w' : World => w'.cell? ⟨tb, 0, none⟩ = some (.map (some L.tp)) ∧ w'.cell? ⟨w.heap.size + 1, 0, none⟩ = some (.pointer (some ⟨w.heap.size + 1 + 1 + 1, 0, none⟩))) (late := fun i => i == 6) (by kernel_rfl) ?_
  have hHeld : (fun w' : World => w'.cell? ⟨tb, 0, none⟩ = some (.map (some L.tp)) ∧ w'.cell? ⟨w.heap.size + 1, 0, none⟩ = some (.pointer (some ⟨w.heap.size + 1 + 1 + 1, 0, none⟩))) _ := HKEEP.out
  refine AnyM.take (i := 0) (v := ?v0) rfl (by kernel_rfl) (by kernel_rfl) rfl (by kernel_rfl) (by kernel_rfl) (fun _ _ _ h => h) (Or.inl ⟨by rfl, ?y0⟩) hHeld ?r0
  case y0 => (intro w hSw; (try dsimp only at hSw); obtain ⟨q1, q2⟩ := hSw; go_simp; try with_reducible rfl)
  try simp only [Act.put, List.setIfInBounds_toArray, List.set_cons_zero, List.set_cons_succ, List.getElem_cons_zero, List.getElem_cons_succ, List.getElem_toArray]
  refine AnyM.take (i := 1) (v := ?v1) rfl (by kernel_rfl) (by kernel_rfl) rfl (by kernel_rfl) (by kernel_rfl) (fun _ _ _ h => h) (Or.inl ⟨by rfl, ?y1⟩) hHeld ?r1
  case y1 => (intro w hSw; (try dsimp only at hSw); obtain ⟨q1, q2⟩ := hSw; go_simp; try with_reducible rfl)
  try simp only [Act.put, List.setIfInBounds_toArray, List.set_cons_zero, List.set_cons_succ, List.getElem_cons_zero, List.getElem_cons_succ, List.getElem_toArray]
  refine AnyM.take (i := 2) (v := ?v2) rfl (by kernel_rfl) (by kernel_rfl) rfl (by kernel_rfl) (by kernel_rfl) (fun _ _ _ h => h) (Or.inl ⟨by rfl, ?y2⟩) hHeld ?r2
  case y2 => (intro w hSw; (try dsimp only at hSw); obtain ⟨q1, q2⟩ := hSw; go_simp; try with_reducible rfl)
  try simp only [Act.put, List.setIfInBounds_toArray, List.set_cons_zero, List.set_cons_succ, List.getElem_cons_zero, List.getElem_cons_succ, List.getElem_toArray]
  refine AnyM.take (i := 3) (v := ?v3) rfl (by kernel_rfl) (by kernel_rfl) rfl (by kernel_rfl) (by kernel_rfl) (fun _ _ _ h => h) (Or.inl ⟨by rfl, ?y3⟩) hHeld ?r3
  case y3 => (intro w hSw; (try dsimp only at hSw); obtain ⟨q1, q2⟩ := hSw; go_simp; try with_reducible rfl)
  try simp only [Act.put, List.setIfInBounds_toArray, List.set_cons_zero, List.set_cons_succ, List.getElem_cons_zero, List.getElem_cons_succ, List.getElem_toArray]
  refine AnyM.take (i := 4) (v := ?v4) rfl (by kernel_rfl) (by kernel_rfl) rfl (by kernel_rfl) (by kernel_rfl) (fun _ _ _ h => h) (Or.inl ⟨by rfl, ?y4⟩) hHeld ?r4
  case y4 => (intro w hSw; (try dsimp only at hSw); obtain ⟨q1, q2⟩ := hSw; go_simp; try with_reducible rfl)
  try simp only [Act.put, List.setIfInBounds_toArray, List.set_cons_zero, List.set_cons_succ, List.getElem_cons_zero, List.getElem_cons_succ, List.getElem_toArray]
  refine AnyM.take (i := 5) (v := ?v5) rfl (by kernel_rfl) (by kernel_rfl) rfl (by kernel_rfl) (by kernel_rfl) (fun _ _ _ h => h) (Or.inl ⟨by rfl, ?y5⟩) hHeld ?r5
  case y5 => (intro w hSw; (try dsimp only at hSw); obtain ⟨q1, q2⟩ := hSw; go_simp; try with_reducible rfl)
  try simp only [Act.put, List.setIfInBounds_toArray, List.set_cons_zero, List.set_cons_succ, List.getElem_cons_zero, List.getElem_cons_succ, List.getElem_toArray]
  refine AnyM.last (i := 6) (by kernel_rfl) rfl rfl (fun K hK => ?_)
  refine step_put rfl (.tmp 46) (.tmp 47) (.tmp 48) 62 rfl 9 67 Try.underlying62 Try.underlying9 encS_inj encS_key L.tp rfl hM4 s rfl (.pointer (some ⟨w.heap.size + 1 + 1 + 1, 0, none⟩)) rfl (fun w5 hM5 hc5 => hK.out _ _ ?_)
  clear hK K
  refine AnyM.done (by kernel_rfl) ?_ _
  have hT5 := HH.out.newPlace (pb := w.heap.size + 1 + 1 + 1) (hb := w.heap.size + 1 + 1) HPL.out (by omega) (by omega) (by omega) (Nat.lt_of_lt_of_le (by omega) hc5.size) (((hcW.mono (fun _ f => f.elim)).trans (Chg.drew _ _)).trans hc5) (hc5.blk hblk (fun e => by have : _ = L.tp := e; have := HH.out.lt L.tp (by rw [HH.out.rp]; simp); omega)) ((hmap.chg (Chg.drew NoB w4) (fun f => f)).chg hc5 (fun e => by have : _ = L.tp := e; have := HH.out.lt L.tp (by rw [HH.out.rp]; simp); omega)) hM5
  have hO5 : TOwn w ρ w5 (roleAt (roleAt ρ (w.heap.size + 1 + 1) (.held s)) (w.heap.size + 1 + 1 + 1) (.place s)) := ⟨(((hcW.mono (fun _ f => f.elim)).trans (Chg.drew _ _)).trans hc5).mono (fun k hk => by have : k = L.tp := hk; rw [this, HH.out.rp]; simp), fun k hk => by
    unfold roleAt at hk
    split at hk
    · right; omega
    · split at hk
      · right; omega
      · exact .inl hk⟩
  have tc5 : w5.cell? ⟨w.heap.size + 1, 0, none⟩ = some (.pointer (some ⟨w.heap.size + 1 + 1 + 1, 0, none⟩)) := (hc5.cell (p := ⟨w.heap.size + 1, 0, none⟩) (Nat.lt_of_lt_of_le (show w.heap.size + 1 < w.heap.size + 4 by omega) hszd) (fun e => by have : w.heap.size + 1 = L.tp := e; have := HH.out.lt L.tp (by rw [HH.out.rp]; simp); omega)).trans HKEEP.out.2
  have hLp : (L.newPlace s (w.heap.size + 1 + 1 + 1) (w.heap.size + 1 + 1)).pl s = ⟨w.heap.size + 1 + 1 + 1, w.heap.size + 1 + 1, none, 0⟩ := by simp [TL.newPlace]
  have hmp : (m.newPlace s).pl s = some PlM.empty := by simp [TM.newPlace]
  have hg5 := (hT5.pl s _ hmp).1
  rw [hLp] at hg5
  have p0 : w5.cell? ⟨w.heap.size + 1 + 1 + 1, 0, none⟩ = some (.map (some (w.heap.size + 1 + 1))) := by rw [cell_of_row w5 _ _ _ _ _ hg5.blk]; rfl
  have p1 : w5.cell? ⟨w.heap.size + 1 + 1 + 1, 1, none⟩ = some (.slice none 0 0) := by rw [cell_of_row w5 _ _ _ _ _ hg5.blk]; rfl
  have HT5 := hide hT5; have HG := hide hg5; have HLP := hide hLp; have HMP := hide hmp; have HO := hide hO5
  clear hT5 hg5 hLp hmp hO5 hc5 hM5 hM4 hsz hszd htc hmap hblk hcW htb c0 c1 c0a
  have HHO : Hid (heldF PlM.empty o = none) := hide rfl
  go_wp2_with (at_lookup; refine wpList_look_none rfl (.tmp 53) (.tmp 54) 68 rfl 29 3 (.int .i64 0) Try.underlying68 Try.underlying29 encU_key zeroInt (w.heap.size + 1 + 1) rfl HG.out.held o rfl HHO.out ?_)
  refine (goes_calls HG.out o md true ⟨fun _ => (fun u m hu => by cases hu), fun _ => rfl⟩).mono ?_
  rintro e w2 ⟨rfl, hc2⟩
  have tc2 : w2.cell? ⟨w.heap.size + 1, 0, none⟩ = some (.pointer (some ⟨w.heap.size + 1 + 1 + 1, 0, none⟩)) := (hc2.cell (cell_some tc5).1 (fun f => f)).trans tc5
  have HHOLD := hide (hold_calls (HT5.out.chg0 hc2) s PlM.empty HMP.out o md)
  rw [HLP.out] at HHOLD
  clear p0 p1 tc5
  go_wp2_with fail
  refine HHOLD.out.mono ?_
  rintro e w3 ⟨rfl, L3, ρ3, hT3, hO3⟩
  have HT3 := hide hT3; clear hT3
  go_wp2_with fail
  go_ret
  exact ⟨rfl, L3, ρ3, HT3.out, (HO.out.trans (TOwn.same hc2)).trans hO3⟩

end Go.Proofs.Ytjnbbmchmkiodaa
