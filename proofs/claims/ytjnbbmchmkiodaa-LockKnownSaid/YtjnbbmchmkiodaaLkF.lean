/- Ask. -/
import Derived.Test.YtjnbbmchmkiodaaLkE
import Derived.Test.YtjnbbmchmkiodaaTogR
namespace Go.Proofs.Ytjnbbmchmkiodaa
open Go.RowKit Go.MapKept

def insQ (q : List (Int × Int)) (k : Nat) (x : Int × Int) : List (Int × Int) := q.take k ++ x :: q.drop k
theorem insQ_end (q : List (Int × Int)) (x : Int × Int) : insQ q q.length x = q ++ [x] := by simp [insQ]
def PlM.at (p : PlM) (o : Int) : Nat := match p.held o with | some _ => (p.queue.findIdx? (idleB p)).getD p.queue.length | none => p.queue.length
/-- To wait. -/
def TM.wait (m : TM) (s : ByteArray) (p : PlM) (o md : Int) : TM := (m.setQ s p (insQ p.queue (p.at o) (o, md))).addWait o (s, md)
open Classical in
noncomputable def askTail (m : TM) (o : Int) (s : ByteArray) (md : Int) (p : PlM) : Int × TM :=
  match p.held o with
  | some had => if joinI had md = had then (0, m) else if goesP p o (joinI had md) then (0, m.hold s p o (joinI had md)) else (10, m.wait s p o (joinI had md))
  | none => if p.queue = [] ∧ goesP p o md then (0, m.hold s p o md) else (10, m.wait s p o md)
noncomputable def askM (m : TM) (o : Int) (s : ByteArray) (md : Int) : Int × TM :=
  if o = 0 ∨ isM md = false then (1, m) else if (m.waits o).isSome then (18, m) else
  match m.pl s with
  | some p => askTail m o s md p
  | none => askTail (m.newPlace s) o s md PlM.empty

def AskR (w : World) (tb : Nat) (r : Int × TM) (ρ : Nat → Role) (e : Ending) (w' : World) : Prop := e = .returned (.int .i64 r.1) ∧ ∃ L' ρ', Tab w' tb r.2 L' ρ' ∧ TOwn w ρ w' ρ'

set_option maxHeartbeats 1000000 in
set_option maxRecDepth 100000 in
theorem ask_refused {w : World} {tb : Nat} {m : TM} {L : TL} {ρ : Nat → Role} (h : Tab w tb m L ρ) (o : Int) (s : ByteArray) (md : Int) (hb : o = 0 ∨ isM md = false) :
    Calls Try.prog 17 #[.pointer (some ⟨tb, 0, none⟩), .int .u64 o, .string s, .int .i64 md] w (AskR w tb (askM m o s md) ρ) := by
  have e : askM m o s md = (1, m) := by simp [askM, hb]
  rw [e]
  have HH := hide h; clear h e
  by_cases h0 : o = 0
  · subst h0
    clear hb
    go_enter Try.func17, Try.ntmps17
    go_wp2_with fail
    go_ret
    exact ⟨rfl, L, ρ, HH.out, TOwn.refl _ _⟩
  · have e0 : (o == 0) = false := by simp [h0]
    have e1 : isM md = false := by simpa [h0] using hb
    clear hb h0
    go_enter Try.func17, Try.ntmps17
    go_wp2_with fail
    refine (isMode_calls md w).mono ?_
    rw [e1]
    rintro e w1 ⟨rfl, rfl⟩
    go_wp2_with fail
    go_ret
    exact ⟨rfl, L, ρ, HH.out, TOwn.refl _ _⟩
set_option maxHeartbeats 1000000 in
set_option maxRecDepth 100000 in
theorem ask_waits {w : World} {tb : Nat} {m : TM} {L : TL} {ρ : Nat → Role} (h : Tab w tb m L ρ) (o : Int) (s : ByteArray) (md : Int) (h0 : ¬ o = 0) (e1 : isM md = true) {g : ByteArray × Int} (hg : m.waits o = some g) :
    Calls Try.prog 17 #[.pointer (some ⟨tb, 0, none⟩), .int .u64 o, .string s, .int .i64 md] w (AskR w tb (askM m o s md) ρ) := by
  have e : askM m o s md = (18, m) := by simp [askM, h0, e1, hg]
  rw [e]
  have c1 : w.cell? ⟨tb, 1, none⟩ = some (.map (some L.tw)) := by rw [cell_of_row w _ _ _ _ _ h.blk]; rfl
  have hM := h.mw
  have hl : waitsF m o = some (.agg #[.string g.1, .int .i64 g.2]) := by simp [waitsF, hg]
  have HH := hide h; have HM := hide hM; have HL := hide hl; clear h e hM hg hl
  have e0 : (o == 0) = false := by simp [h0]
  clear h0
  go_enter Try.func17, Try.ntmps17
  go_wp2_with fail
  refine (isMode_calls md w).mono ?_
  rw [e1]
  rintro e w1 ⟨rfl, rfl⟩
  go_wp2_with (at_lookup; refine wpList_look_some rfl (.tmp 26) (.tmp 27) 63 rfl 29 33 (.agg #[.string ⟨#[]⟩, .int .i64 0]) Try.underlying63 Try.underlying29 encU_key zeroGr L.tw rfl HM.out o rfl _ HL.out ?_)
  go_ret
  have hc := (Chg.alloc NoB w (.cells #[.string g.1, .int .i64 g.2] 33))
  exact ⟨rfl, L, ρ, HH.out.chg0 hc, TOwn.same hc⟩
end Go.Proofs.Ytjnbbmchmkiodaa
