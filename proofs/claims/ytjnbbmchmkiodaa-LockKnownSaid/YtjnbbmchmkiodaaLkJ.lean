/- The names of an owner, sorted: one name. -/
import Derived.Test.YtjnbbmchmkiodaaLkI
import Derived.Test.YtjnbbmchmkiodaaShelf
import Derived.Shelf.Small.Strs
namespace Go.Proofs.Ytjnbbmchmkiodaa
open Go.RowKit Go.MapKept Go.Shelf Go.Sort
open Go.WideElems (Fit rd rg)

theorem ownsRow_chg {w w' : World} {F : Nat → Prop} {base : Nat} {e : TypeId} {size : Nat} {a : Option Addr} {k c n : Nat} {xs : List Value} (h : w.ownsRow base e size (.slice a k c) n xs) (hc : Chg F w w') (hn : ∀ b, a = some b → ¬ F b.block) : w'.ownsRow base e size (.slice a k c) n xs := by
  refine ⟨h.1, ?_⟩
  rcases h.2 with h' | ⟨g, cap, cur, hv, hb, hg, r⟩
  · exact .inl h'
  · refine .inr ⟨g, cap, cur, hv, hb, ?_, r⟩
    simp only [Value.slice.injEq] at hv
    exact hc.blk hg (hn _ hv.1)
theorem one_owns {w : World} {b : Nat} {f : ByteArray → Bool} (hM : MapAt w b .string encS (setF f)) (s : ByteArray) (hf : ∀ x, f x = true ↔ x = s) (hs : s.size ≤ maxLen) :
    w.ownsMap (H := Unit) Try.prog 9 (fun _ => some (.nil, [])) b 1 (.map [(.string s.data.toList, .nil)]) := by
  obtain ⟨es, clock, h1, h2, h3, h4⟩ := hM.ex
  have hall : ∀ x ∈ es.toList, x.key = encS s := fun x hx => by
    obtain ⟨k, hk⟩ := (h3 x hx).2
    have := (h4 k x.val).2 ⟨x, hx, hk, rfl⟩
    have hk' : k = s := (hf k).1 (by unfold setF at this; split at this; assumption; cases this)
    rw [hk, hk']
  obtain ⟨x0, hx0, -, -⟩ := (h4 s (.agg #[])).1 (by simp [setF, (hf s).2 rfl])
  have hp := ((stamped_iff es clock).1 h2).2.2
  have hl : es.toList = [x0] := by
    generalize es.toList = l at hall hx0 hp
    match l, hall, hx0, hp with
    | [], _, hx, _ => cases hx
    | [y], _, hx, _ => simp at hx; rw [hx]
    | y :: z :: r, ha, _, hp => exact absurd ((ha y (by simp)).trans (ha z (by simp)).symm) (List.rel_of_pairwise_cons hp (by simp))
  have hrd : rd (H := Unit) Try.prog 9 (fun _ => some (.nil, [])) x0 = some (.string s.data.toList, .nil) := by
    have : keyOf Try.prog 9 x0.key = some (.string s.data.toList) := by
      rw [hall x0 hx0]; simp [keyOf, Try.underlying9, mapKey, encS, hs]
    simp [rd, this]
  refine ⟨es, clock, h1, ⟨?_, h2, fun x hx => ?_⟩, ?_, ?_⟩
  · rw [← Array.length_toList, hl]; show 1 ≤ maxLen; decide
  · rw [hl] at hx; simp at hx; subst hx; exact ⟨_, hrd⟩
  · rw [← Array.length_toList, hl]; simp
  · rw [hl]; simp [rg, hrd, DataW.insert]

theorem keys_calls (mb : Option Nat) (W : World) : Calls Try.prog 35 #[.map mb] W fun e w' => e = .returned (.func (.func 55) #[] #[.pointer (some ⟨W.heap.size, 0, none⟩)]) ∧ w' = W.alloc (.cells #[.map mb] 80) :=
  (callsIn_wide (n := 5)).1 (AnyZ.keys_in keysL Fence.wide 5 trivial rfl mb W)

set_option maxHeartbeats 1000000 in
set_option maxRecDepth 100000 in
theorem sorted_one {w : World} {bm b : Nat} {f : ByteArray → Bool} (hc : w.cell? ⟨bm, 0, none⟩ = some (.map (some b))) (hM : MapAt w b .string encS (setF f)) (s : ByteArray) (hf : ∀ x, f x = true ↔ x = s) (hs : s.size ≤ maxLen) :
    Calls Try.prog 34 #[.func (.func 55) #[] #[.pointer (some ⟨bm, 0, none⟩)], .func (.func 36) #[] #[]] w fun e w' => ∃ v, e = .returned v ∧ w'.ownsRow w.heap.size 9 1 v 1 [encS s] ∧ Below w.heap.size w w' := by
  have hown := one_owns hM s hf hs
  have hseq : SeqGives Fence.wide 4 Try.prog 55 #[.pointer (some ⟨bm, 0, none⟩)] Go.Proofs.encStr (fun ss => ss.Perm (strKeys (.map [(.string s.data.toList, (.nil : DataW Unit))]))) (Maps.size (.map [(.string s.data.toList, (.nil : DataW Unit))])) w :=
    AnyZ.keys_gives (ρ := keysL_ren) { keysL with } Fence.wide _ trivial rfl (by omega) bm b 1 _ w (cell_some hc).1 hc hown
  have cC := AnyZ.collect_in collL Fence.wide 6 trivial trivial rfl (by omega) 55 #[.pointer (some ⟨bm, 0, none⟩)] trivial (enters_of Try.func55 (by kernel_rfl) rfl) _ _ (show 1 ≤ maxLen by decide) (show 1 * 16 ≤ 140737488355328 by decide) w hseq
  have cC2 : Calls Try.prog 53 #[.func (.func 55) #[] #[.pointer (some ⟨bm, 0, none⟩)]] w fun e w' => ∃ v, e = .returned v ∧ w'.ownsRow w.heap.size 9 1 v 1 [encS s] ∧ Below w.heap.size w w' := by
    refine ((callsIn_wide (n := 6)).1 cC).mono ?_
    rintro e w' ⟨v, ss, rfl, hp, hr, -, hb⟩
    have : ss = [s.data.toList] := List.perm_singleton.1 hp
    subst this
    exact ⟨v, rfl, hr, hb⟩
  clear cC hseq hown
  have hcmp : ∀ (W : World) (blk off : Nat), CmpReads Try.prog 36 #[] Go.Proofs.encStr (fun x y => Lib.compareBytes x y) blk off 1 W := by
    intro W blk off m os dk _ x y
    refine (Any.strings_Compare cmpL ⟨x.toArray⟩ ⟨y.toArray⟩ _).mono ?_
    rintro e w' ⟨rfl, rfl⟩
    exact ⟨by simp, 0, by simp [World.drewN]⟩
  have hlen : ∀ (n : Nat) (W : World), n ≤ 12 → Calls Try.prog 66 #[.int .u64 n] W fun e w' => (∃ l : Int, e = .returned (.int .i64 l)) ∧ w' = W := by
    intro n W hn
    refine (Any.bits_Len lenL n W (by omega) (by omega)).mono ?_
    rintro e w' ⟨rfl, rfl⟩
    exact ⟨⟨_, rfl⟩, rfl⟩
  have cS : ∀ (W : World) (blk off cap : Nat), Holds Go.Proofs.encStr W blk off #[s.data.toList] → Calls Try.prog 54 #[.slice (some ⟨blk, off, none⟩) 1 cap, .func (.func 36) #[] #[]] W fun e w' => e = .returned (.tuple #[]) ∧ ∃ n, w' = W.drewN n := by
    intro W blk off cap hH
    refine (Any.slices_SortFunc_small sortL Go.Proofs.encStr (by intro x; rfl) (fun x y => Lib.compareBytes x y) 36 #[] blk off cap #[s.data.toList] W (enters_of Try.func36 (by kernel_rfl) rfl) (hcmp W blk off) hH (show 1 ≤ 12 by omega) hlen).mono ?_
    rintro e w' ⟨rfl, n, rfl⟩
    refine ⟨rfl, n, ?_⟩
    have hsrt : Sort.insertionSort (ltOf (fun x y => Lib.compareBytes x y)) #[s.data.toList] 0 (#[s.data.toList] : Array (List UInt8)).size = #[s.data.toList] := by
      unfold Sort.insertionSort Sort.insOuter
      simp
    rw [hsrt, putRow_self Go.Proofs.encStr W blk off _ hH]
  have HS := hide cS; have HC := hide cC2
  clear cS cC2 hcmp hlen hf hM hc
  go_enter Try.func34, Try.ntmps34
  go_wp2_with fail
  refine HC.out.mono ?_
  rintro e w1 ⟨v, rfl, hr, hb⟩
  have hr0 := hr
  rcases hr.2 with ⟨_, h0⟩ | ⟨g, cap, cur, rfl, hgb, hblk, h1, _, h3, h4⟩
  · cases h0
  · have hcur : cur[0]? = some (encS s) := by
      have : (cur.toList.take 1)[0]? = some (encS s) := by rw [h4]; rfl
      rw [List.getElem?_take] at this
      simpa using this
    have hH : Holds Go.Proofs.encStr w1 g 0 #[s.data.toList] := fun j hj => by
      have : j = 0 := by simpa using hj
      subst this
      refine ⟨?_, by simp [World.frozen?, hblk]⟩
      rw [cell_of_row w1 _ _ _ _ _ hblk]
      simpa [Go.Proofs.encStr, encS] using hcur
    have HH := hide hH; have HR := hide hr0; clear hH hr hr0 hcur hblk h1 h3 h4
    go_wp2_with fail
    refine (HS.out w1 g 0 _ HH.out).mono ?_
    rintro e w2 ⟨rfl, n, rfl⟩
    go_wp2_with fail
    go_ret
    exact ⟨_, rfl, ownsRow_chg HR.out (Chg.drewN NoB w1 n) (fun _ _ f => f), hb.trans (((Chg.drewN NoB w1 n).below (B := w.heap.size) (fun _ f => f.elim) hb.size))⟩
end Go.Proofs.Ytjnbbmchmkiodaa
