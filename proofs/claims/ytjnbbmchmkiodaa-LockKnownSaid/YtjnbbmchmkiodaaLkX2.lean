/- Queue: who waits at a name. -/
import Derived.Test.YtjnbbmchmkiodaaLkX
namespace Go.Proofs.Ytjnbbmchmkiodaa
open Go.RowKit Go.MapKept

set_option linter.unusedSimpArgs false
set_option linter.unusedVariables false
def queueOf (m : TM) (s : ByteArray) : List Int := match m.pl s with | some p => p.queue.map (·.1) | none => []
def QueR (w : World) (ρ : Nat → Role) (m : TM) (s : ByteArray) (e : Ending) (w' : World) : Prop := ∃ v, e = .returned v ∧ Rw w w' ρ v (queueOf m s) ∧ Chg NoB w w'

set_option maxHeartbeats 2000000 in
set_option maxRecDepth 100000 in
theorem queue_calls {w : World} {tb : Nat} {m : TM} {L : TL} {ρ : Nat → Role} (h : Tab w tb m L ρ) (s : ByteArray) (hq : ∀ p, m.pl s = some p → p.queue.length ≤ 3000000000000) :
    Calls Try.prog 21 #[.pointer (some ⟨tb, 0, none⟩), .string s] w (QueR w ρ m s) := by
  have c0 : w.cell? ⟨tb, 0, none⟩ = some (.map (some L.tp)) := by rw [cell_of_row w _ _ _ _ _ h.blk]; rfl
  have HMP := hide h.mp
  have HH := hide h
  cases hp : m.pl s with
  | none =>
    have HL : Hid ((placesF m L s).getD (.pointer none) = .pointer none) := hide (by simp [placesF, hp])
    have HQ : Hid (queueOf m s = []) := hide (by simp [queueOf, hp])
    clear h hq hp
    go_enter Try.func21, Try.ntmps21
    go_wp2_with (at_lookup; refine wpList_look1 rfl (.tmp 12) (.tmp 13) 62 rfl 9 67 (.pointer none) Try.underlying62 Try.underlying9 encS_key zeroPl L.tp rfl HMP.out s rfl _ HL.out ?_)
    go_ret
    refine ⟨_, rfl, ?_, Chg.alloc _ _ _⟩
    rw [HQ.out]
    exact ⟨some ⟨w.heap.size, 0, none⟩, 0, rfl, ⟨rfl, .inr ⟨w.heap.size, 0, _, rfl, Nat.zero_le _, heap_alloc_new w _, Nat.le_refl _, by unfold maxLen; omega, rfl, rfl⟩⟩, fun b e => by cases e; exact ⟨Nat.le_refl _, HH.out.fresh (Nat.le_refl _)⟩⟩
  | some p =>
    have HL : Hid ((placesF m L s).getD (.pointer none) = .pointer (some ⟨(L.pl s).pb, 0, none⟩)) := hide (by simp [placesF, hp])
    have HQ : Hid (queueOf m s = p.queue.map (·.1)) := hide (by simp [queueOf, hp])
    have hqn := hq p hp
    obtain ⟨g1, -, -, -⟩ := h.pl s p hp
    have k1 : w.cell? ⟨(L.pl s).pb, 1, none⟩ = some (.slice (L.pl s).qa p.queue.length (L.pl s).qc) := by rw [cell_of_row w _ _ _ _ _ g1.blk]; rfl
    have HG1 := hide g1
    obtain ⟨iu, hiu, hzu0, hzu1, hzu2⟩ := info_parts infoU64
    have HIU := hide (And.intro hiu (And.intro hzu0 (And.intro hzu1 hzu2)))
    clear h hq hp g1 hiu hzu0 hzu1 hzu2
    have hl0 : (0 : Int) ≤ (p.queue.length : Int) := by omega
    go_enter Try.func21, Try.ntmps21
    go_upto_region 5 with (first | (at_lookup; refine wpList_look1 rfl (.tmp 12) (.tmp 13) 62 rfl 9 67 (.pointer none) Try.underlying62 Try.underlying9 encS_key zeroPl L.tp rfl HMP.out s rfl _ HL.out ?_) | (refine wpList_mk rfl (.const (.int .i64 0)) (.tmp 22) 36 rfl 29 iu (.int .u64 0) 1 8 Try.underlying36 HIU.out.1 HIU.out.2.1 HIU.out.2.2.1 HIU.out.2.2.2 .i64 .i64 0 p.queue.length rfl rfl (Nat.zero_le _) (by omega) (by unfold maxLen; omega) ?_))
    have hrw : Rw w (w.alloc (.cells (madeCells #[.int .u64 0] p.queue.length) 29)) ρ (.slice (some ⟨w.heap.size, 0, none⟩) 0 p.queue.length) [] :=
      ⟨some ⟨w.heap.size, 0, none⟩, p.queue.length, rfl, World.ownsRow_made w _ p.queue.length (Nat.zero_le _) (by unfold maxLen; omega) (by simp [size_madeCells]), fun b e => by cases e; exact ⟨Nat.le_refl _, HH.out.fresh (Nat.le_refl _)⟩⟩
    have hca := Chg.alloc NoB w (.cells (madeCells #[.int .u64 0] p.queue.length) 29)
    have HRW := hide hrw; have HCA := hide hca
    clear hrw hca
    generalize w.alloc (.cells (madeCells #[.int .u64 0] p.queue.length) 29) = w1 at HRW HCA ⊢
    generalize (Value.slice (some ⟨w.heap.size, 0, none⟩) 0 p.queue.length) = v0 at HRW ⊢
    have hg2 := HG1.out.chg HCA.out (fun f => f) (fun f => f) (fun _ _ f => f)
    have k2 : w1.cell? ⟨(L.pl s).pb, 1, none⟩ = some (.slice (L.pl s).qa p.queue.length (L.pl s).qc) := by rw [cell_of_row w1 _ _ _ _ _ hg2.blk]; rfl
    have HQU := hide hg2.queue
    clear hg2 k1 c0
    go_wp2_with fail
    go_loopw [6, 29] (fun ov v wr => ∃ j : Nat, j ≤ p.queue.length ∧ v = .int .i64 j ∧ Chg NoB w wr ∧ QAt wr (L.pl s).qa p.queue.length (L.pl s).qc p.queue ∧ Rw w wr ρ ov ((p.queue.take j).map (·.1))) (fun _ v _ => p.queue.length - (intOf v).toNat)
    case atStart => exact ⟨0, Nat.zero_le _, rfl, HCA.out, HQU.out, by simpa using HRW.out⟩
    case round =>
      obtain ⟨j, hj, rfl, hch2, hqu2, hrw2⟩ := hrel
      have HCH2 := hide hch2; have HRW2 := hide hrw2; have HQU2 := hide hqu2
      clear hch2 hrw2 hqu2 k2 HRW HCA HQU
      by_cases hlt : j < p.queue.length
      · have hy : p.queue[j]? = some p.queue[j] := List.getElem?_eq_getElem hlt
        have htk : p.queue.take (j + 1) = p.queue.take j ++ [p.queue[j]] := by rw [List.take_succ_eq_append_getElem hlt]
        generalize p.queue[j] = y at hy htk
        obtain ⟨ow, md⟩ := y
        obtain ⟨g, off, hqa, k2, k3⟩ := HQU2.out.cells hy
        rw [hqa]
        have HTK := hide htk; have HQA := hide hqa
        clear htk hy hqa
        have hj1 : (j : Int) < (p.queue.length : Int) := by omega
        have hj0 : (0 : Int) ≤ (j : Int) := by omega
        obtain ⟨oa, oc, rfl, -⟩ := HRW2.out.form
        have hrA := HRW2.out.new (Chg.alloc NoB wr (.cells #[.int .u64 ow, .int .i64 md] 77))
        have hxA := heap_alloc_new wr (.cells #[.int .u64 ow, .int .i64 md] 77)
        have hcA := HCH2.out.trans (Chg.alloc NoB wr (.cells #[.int .u64 ow, .int .i64 md] 77))
        have hqA := HQU2.out.chg (Chg.alloc NoB wr (.cells #[.int .u64 ow, .int .i64 md] 77)) (fun _ _ f => f)
        have HRA := hide hrA; have HXA := hide hxA; have HCA2 := hide hcA; have HQUA := hide hqA
        clear hrA hxA hcA hqA
        go_upto_region 8 with (fail)
        generalize wr.alloc (.cells #[.int .u64 ow, .int .i64 md] 77) = wa at HRA HXA HCA2 HQUA ⊢
        generalize wr.heap.size = xb at HXA ⊢
        have kx : wa.cell? ⟨xb, 0, none⟩ = some (.int .u64 ow) := by rw [cell_of_row _ _ _ _ _ _ HXA.out]; rfl
        have hrB := HRA.out.new (Chg.alloc NoB wa (.cells #[.int .u64 ow] 29))
        obtain ⟨_, _, hv, hrow⟩ := hrB.form
        simp only [Value.slice.injEq, true_and] at hv
        obtain ⟨rfl, rfl⟩ := hv
        have HROW := hide hrow; have HRB := hide hrB; have HNW := hide (news1 wa ow)
        have hle : ((p.queue.take j).map (·.1)).length ≤ 3000000000000 := by simp only [List.length_map, List.length_take]; omega
        have HLE := hide hle
        clear hrow hrB hle k2 k3
        generalize hbx : (p.queue.take j).map (·.1) = bx at HLE HROW HRB HRA ⊢
        have HBX := hide hbx; clear hbx
        go_wp2_with (at_builtin; refine wpList_app_own rfl (.tmp 33) (.tmp 36) 36 rfl 29 iu (.int .u64 0) 1 8 Try.underlying36 HIU.out.1 HIU.out.2.1 HIU.out.2.2.1 HIU.out.2.2.2 rfl (by decide) oa bx.length oc _ rfl HROW.out _ 1 1 [.int .u64 ow] rfl (fun h => by cases h) rfl HNW.out (fun u hu => by simp at hu; subst hu; rfl) (by have := HLE.out; unfold maxLen; omega) (by have := HLE.out; omega) (Hid.out ?_))
        refine hide (fun a' c' wz hrz hcz hnz => ?_)
        have hn' : ∀ k, (∃ b, a' = some b ∧ b.block = k) → (∃ b, oa = some b ∧ b.block = k) ∨ (World.heap (wa.alloc (.cells #[.int .u64 ow] 29))).size ≤ k := fun k hk => by
          obtain ⟨b, e1, e2⟩ := hk
          rw [← e2]
          simpa using hnz b e1
        have hF : ∀ k, (∃ b, oa = some b ∧ b.block = k) → w.heap.size ≤ k ∧ ρ k = .none := fun k hk => by
          obtain ⟨b, h1, h2⟩ := hk
          subst h1
          have := HRB.out.lt rfl
          rw [← h2]; exact this.2
        have hcB := HCA2.out.trans (Chg.alloc _ wa (.cells #[.int .u64 ow] 29))
        have hrZ := HRB.out.app (ys := [ow]) (k := 1) (fun k hk => HH.out.fresh (Nat.le_trans hcB.size hk)) hcB.size rfl hrz hn'
        have hcZ0 : Chg NoB w wz := hcB.trans' hcz (fun k hk => .inr (hF k hk).1)
        have hgZ := (HG1.out.chg hcZ0 (fun f => f) (fun f => f) (fun _ _ f => f)).queue
        rw [HQA.out] at hgZ
        have HRZ := hide hrZ; have HCZ := hide hcZ0; have HQZ := hide hgZ
        clear hrz hcz hnz hn' hF hcB hrZ hcZ0 hgZ
        try go_frame
        go_wp2_with fail
        go_roundw
        case rel =>
          refine ⟨j + 1, by omega, by go_num, HCZ.out, HQZ.out, ?_⟩
          rw [HTK.out, List.map_append, HBX.out]
          exact HRZ.out
        case measure => simp [intOf]; omega
      · obtain rfl : j = p.queue.length := by omega
        have hj1 : ¬ (p.queue.length : Int) < (p.queue.length : Int) := by omega
        have hrw := HRW2.out
        rw [List.take_length] at hrw
        have HRW3 := hide hrw
        clear hrw
        go_wp2_with fail
        go_ret
        exact ⟨_, rfl, by rw [HQ.out]; exact HRW3.out, HCH2.out⟩
end Go.Proofs.Ytjnbbmchmkiodaa
