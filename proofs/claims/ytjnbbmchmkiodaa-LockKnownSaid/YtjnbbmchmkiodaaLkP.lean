/- The names of a set, sorted. -/
import Derived.Test.YtjnbbmchmkiodaaLkO
import Derived.Test.YtjnbbmchmkiodaaShelfB
namespace Go.Proofs.Ytjnbbmchmkiodaa
open Go.RowKit Go.MapKept Go.Shelf
open Go.WideElems (Fit rd rg)
open Go.WideShapes (sorted_perm)

theorem length_le_of_mem {α : Type} [DecidableEq α] : ∀ (xs l : List α), xs.Nodup → (∀ x ∈ xs, x ∈ l) → xs.length ≤ l.length
  | [], _, _, _ => Nat.zero_le _
  | x :: xs, l, hn, hm => by
    obtain ⟨h1, h2⟩ := List.nodup_cons.1 hn
    have hx := hm x (by simp)
    have := length_le_of_mem xs (l.erase x) h2 (fun y hy => (List.mem_erase_of_ne (fun e => h1 (by rw [← e]; exact hy))).2 (hm y (by simp [hy])))
    rw [List.length_erase_of_mem hx] at this
    have := List.length_pos_of_mem hx
    simp only [List.length_cons]; omega

def keyBA (x : MapEntry) : ByteArray := match x.key with | .string s => s | _ => ⟨#[]⟩
theorem keyBA_of {x : MapEntry} {k : ByteArray} (h : x.key = encS k) : keyBA x = k := by simp [keyBA, h, encS]

set_option maxRecDepth 100000 in
theorem set_owns {w : World} {b : Nat} {f : ByteArray → Bool} (hM : MapAt w b .string encS (setF f)) (l : List ByteArray) (hl : ∀ x, f x = true → x ∈ l ∧ x.size ≤ maxLen) (hN : l.length ≤ maxLen) :
    ∃ (D : DataW Unit), w.ownsMap Try.prog 9 (fun _ => some (.nil, [])) b l.length D ∧ Maps.size D ≤ l.length ∧ ∃ ks : List ByteArray, ks.Nodup ∧ (∀ x, x ∈ ks ↔ f x = true) ∧ (strKeys D).Perm (ks.map (·.data.toList)) := by
  obtain ⟨es, clock, h1, h2, h3, h4⟩ := hM.ex
  have hp := ((stamped_iff es clock).1 h2).2.2
  have hk : ∀ x ∈ es.toList, x.key = encS (keyBA x) ∧ f (keyBA x) = true := fun x hx => by
    obtain ⟨k, hk⟩ := (h3 x hx).2
    have := (h4 k x.val).2 ⟨x, hx, hk, rfl⟩
    rw [keyBA_of hk]
    exact ⟨hk, by unfold setF at this; split at this; assumption; cases this⟩
  have hnd : (es.toList.map keyBA).Nodup := List.pairwise_map.2 (hp.imp_of_mem (fun {x y} hx hy hne e => hne (by rw [(hk x hx).1, (hk y hy).1, e])))
  have hmem : ∀ x, x ∈ es.toList.map keyBA ↔ f x = true := fun x => by
    rw [List.mem_map]
    constructor
    · rintro ⟨y, hy, rfl⟩; exact (hk y hy).2
    · intro hfx
      obtain ⟨y, hy, hyk, -⟩ := (h4 x (.agg #[])).1 (by simp [setF, hfx])
      exact ⟨y, hy, keyBA_of hyk⟩
  have hlen : es.size ≤ l.length := by
    have := length_le_of_mem (es.toList.map keyBA) l hnd (fun x hx => (hl x ((hmem x).1 hx)).1)
    simpa using this
  have hrd : ∀ x ∈ es.toList, rd (H := Unit) Try.prog 9 (fun _ => some (.nil, [])) x = some (.string (keyBA x).data.toList, .nil) := fun x hx => by
    have hs := (hl _ (hk x hx).2).2
    have : keyOf Try.prog 9 x.key = some (.string (keyBA x).data.toList) := by
      rw [(hk x hx).1]; simp [keyOf, Try.underlying9, mapKey, encS, hs]
    unfold rd; rw [this]; rfl
  refine ⟨_, ⟨es, clock, h1, ⟨Nat.le_trans hlen hN, h2, fun x hx => ⟨_, hrd x hx⟩⟩, hlen, rfl⟩, ?_, es.toList.map keyBA, hnd, hmem, ?_⟩
  · rw [Maps.size_eq, length_sorted]; simpa using hlen
  · have hsp := (sorted_perm (es.toList.map (rg (H := Unit) Try.prog 9 (fun _ => some (.nil, []))))).map (fun p => strOf p.1)
    refine List.Perm.trans hsp ?_
    rw [List.map_map, List.map_map]
    refine List.Perm.of_eq (List.map_congr_left (fun x hx => ?_))
    show strOf (rg _ _ _ x).1 = (keyBA x).data.toList
    unfold rg; rw [hrd x hx]; rfl

set_option maxHeartbeats 1000000 in
set_option maxRecDepth 100000 in
theorem sorted_calls {w : World} {bm b : Nat} {f : ByteArray → Bool} (hc : w.cell? ⟨bm, 0, none⟩ = some (.map (some b))) (hM : MapAt w b .string encS (setF f)) (l : List ByteArray) (hl : ∀ x, f x = true → x ∈ l ∧ x.size ≤ maxLen) (hN : l.length ≤ 5000000000000) :
    Calls Try.prog 37 #[.func (.func 55) #[] #[.pointer (some ⟨bm, 0, none⟩)]] w fun e w' => ∃ (v : Value) (ns : List ByteArray), e = .returned v ∧ ns.Nodup ∧ (∀ x, x ∈ ns ↔ f x = true) ∧ (ns.map (·.data.toList)).Pairwise (· ≤ ·) ∧ w'.ownsRow w.heap.size 9 1 v ns.length (ns.map encS) ∧ Below w.heap.size w w' := by
  obtain ⟨D, hown, hsz, ks, hnd, hks, hperm⟩ := set_owns hM l hl (Nat.le_trans hN (by decide))
  have hseq : SeqGives Fence.wide 4 Try.prog 55 #[.pointer (some ⟨bm, 0, none⟩)] Go.Proofs.encStr (fun ss => ss.Perm (strKeys D)) (Maps.size D) w :=
    AnyZ.keys_gives (ρ := keysL_ren) { keysL with } Fence.wide _ trivial rfl (by omega) bm b l.length _ w (cell_some hc).1 hc hown
  have hsorts : AnyZ.SortsIn Try.prog sortedL_ren Fence.wide 6 :=
    ⟨fun blk off cap ss W hH hblk hsz => callsIn_wide.2 (AnyM.slices_Sort_string ordL blk off cap ss W hH hblk hsz),
     fun p cap W => callsIn_wide.2 (AnyM.slices_Sort_string_none ordL p cap W)⟩
  have cS := AnyZ.sorted_in sortedL Fence.wide 7 trivial trivial trivial trivial rfl (by omega) hsorts (enters_of Try.func57 (by kernel_rfl) rfl) 55 #[.pointer (some ⟨bm, 0, none⟩)] trivial (enters_of Try.func55 (by kernel_rfl) rfl) _ _ (Nat.le_trans hsz (Nat.le_trans hN (by decide))) (by omega) w hseq
  refine ((callsIn_wide (n := 7)).1 cS).mono ?_
  rintro e w' ⟨v, ss, rfl, hS, hrow, hnil, hb⟩
  have hms : (ss.mergeSort (fun x y => decide (x ≤ y))).Perm (ks.map (·.data.toList)) := ((List.mergeSort_perm _ _).trans hS).trans hperm
  generalize hmd : ss.mergeSort (fun x y => decide (x ≤ y)) = ms at hms hrow ⊢
  have hsrt : ms.Pairwise (· ≤ ·) := by
    rw [← hmd]
    exact (List.pairwise_mergeSort (le := fun x y : List UInt8 => decide (x ≤ y)) (fun a b c h1 h2 => by simp only [decide_eq_true_eq] at *; exact List.le_trans h1 h2) (fun a b => by simp only [Bool.or_eq_true, decide_eq_true_eq]; exact List.le_total a b) ss).imp (fun h => by simpa using h)
  have hlen : ms.length = ss.length := by rw [← hmd]; exact List.length_mergeSort ..
  have hinv : ∀ y : List UInt8, ((⟨y.toArray⟩ : ByteArray).data.toList) = y := fun y => by simp
  have hinj : ∀ x y : ByteArray, x.data.toList = y.data.toList → x = y := fun x y h => by
    obtain ⟨x⟩ := x; obtain ⟨y⟩ := y
    have h2 : x.toList = y.toList := h
    rw [Array.toList_inj.1 h2]
  have hnm : ms.Nodup := hms.nodup_iff.2 (List.pairwise_map.2 (hnd.imp (fun hne e => hne (hinj _ _ e))))
  refine ⟨v, ms.map (fun y => ⟨y.toArray⟩), rfl, ?_, ?_, ?_, ?_, hb⟩
  · exact List.pairwise_map.2 (hnm.imp (fun {a b} hne e => hne (by rw [← hinv a, e, hinv])))
  · intro x
    rw [← hks x, List.mem_map]
    constructor
    · rintro ⟨y, hy, rfl⟩
      obtain ⟨k, hk, e⟩ := List.mem_map.1 (hms.mem_iff.1 hy)
      have : (⟨y.toArray⟩ : ByteArray) = k := hinj _ _ (by rw [hinv]; exact e.symm)
      rw [this]; exact hk
    · intro hk
      exact ⟨x.data.toList, hms.mem_iff.2 (List.mem_map.2 ⟨x, hk, rfl⟩), hinj _ _ (hinv _)⟩
  · rw [List.map_map, show ((fun x : ByteArray => x.data.toList) ∘ fun y : List UInt8 => (⟨y.toArray⟩ : ByteArray)) = id from funext hinv, List.map_id]
    exact hsrt
  · rw [List.length_map, hlen, List.map_map]
    exact hrow
end Go.Proofs.Ytjnbbmchmkiodaa
