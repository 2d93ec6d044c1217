/- A table of locks in memory. -/
import Derived.Test.YtjnbbmchmkiodaaQ
namespace Go.Proofs.Ytjnbbmchmkiodaa
open Go.RowKit Go.MapKept

structure PlM where
  held : Int → Option Int
  queue : List (Int × Int)
structure TM where
  pl : ByteArray → Option PlM
  waits : Int → Option (ByteArray × Int)
  names : Int → Option (ByteArray → Bool)

def encU (n : Int) : Value := .int .u64 n
def encS (s : ByteArray) : Value := .string s
theorem encU_inj : ∀ a b : Int, encU a = encU b → a = b := fun a b h => by simpa [encU] using h
theorem encS_inj : ∀ a b : ByteArray, encS a = encS b → a = b := fun a b h => by simpa [encS] using h
theorem encU_key : ∀ k : Int, IsKey (.int .u64) (encU k) := fun _ => rfl
theorem encS_key : ∀ k : ByteArray, IsKey .string (encS k) := fun _ => trivial

inductive Role where
  | none | tab | mp | mw | mn
  | place (s : ByteArray)
  | held (s : ByteArray)
  | queue (s : ByteArray)
  | inner (o : Int)

structure PlL where
  pb : Nat
  hb : Nat
  qa : Option Addr
  qc : Nat
structure TL where
  tp : Nat
  tw : Nat
  tn : Nat
  pl : ByteArray → PlL
  nm : Int → Nat

def heldF (p : PlM) (o : Int) : Option Value := (p.held o).map fun m => .int .i64 m
/-- A place: its struct, its holders, its queue. -/
structure PlAt (w : World) (L : PlL) (p : PlM) : Prop where
  blk : w.heap[L.pb]? = some (.cells #[.map (some L.hb), .slice L.qa p.queue.length L.qc] 71 (0, 0))
  held : MapAt w L.hb (.int .u64) encU (heldF p)
  queue : QAt w L.qa p.queue.length L.qc p.queue
def placesF (m : TM) (L : TL) (s : ByteArray) : Option Value := (m.pl s).map fun _ => .pointer (some ⟨(L.pl s).pb, 0, none⟩)
def waitsF (m : TM) (o : Int) : Option Value := (m.waits o).map fun g => .agg #[.string g.1, .int .i64 g.2]
def namesF (m : TM) (L : TL) (o : Int) : Option Value := (m.names o).map fun _ => .map (some (L.nm o))
def setF (f : ByteArray → Bool) (s : ByteArray) : Option Value := if f s then some (.agg #[]) else none

structure Tab (w : World) (tb : Nat) (m : TM) (L : TL) (ρ : Nat → Role) : Prop where
  blk : w.heap[tb]? = some (.cells #[.map (some L.tp), .map (some L.tw), .map (some L.tn)] 66 (0, 0))
  mp : MapAt w L.tp .string encS (placesF m L)
  mw : MapAt w L.tw (.int .u64) encU (waitsF m)
  mn : MapAt w L.tn (.int .u64) encU (namesF m L)
  pl : ∀ s p, m.pl s = some p → PlAt w (L.pl s) p ∧ ρ (L.pl s).pb = .place s ∧ ρ (L.pl s).hb = .held s ∧ ∀ b, (L.pl s).qa = some b → ρ b.block = .queue s
  nm : ∀ o f, m.names o = some f → MapAt w (L.nm o) .string encS (setF f) ∧ ρ (L.nm o) = .inner o
  rt : ρ tb = .tab
  rp : ρ L.tp = .mp
  rw : ρ L.tw = .mw
  rn : ρ L.tn = .mn
  lt : ∀ k, ρ k ≠ .none → k < w.heap.size

section
variable {w w' : World} {tb : Nat} {m : TM} {L : TL} {ρ : Nat → Role}
theorem PlAt.chg {F : Nat → Prop} {L : PlL} {p : PlM} (h : PlAt w L p) (hc : Chg F w w') (h1 : ¬ F L.pb) (h2 : ¬ F L.hb) (h3 : ∀ b, L.qa = some b → ¬ F b.block) : PlAt w' L p :=
  ⟨hc.blk h.blk h1, h.held.chg hc h2, h.queue.chg hc h3⟩
/-- What is written elsewhere leaves a table as it is. -/
theorem Tab.chg {F : Nat → Prop} (h : Tab w tb m L ρ) (hc : Chg F w w') (hF : ∀ k, F k → ρ k = .none) : Tab w' tb m L ρ := by
  have no : ∀ {k : Nat} {r : Role}, ρ k = r → r ≠ .none → ¬ F k := fun e hr f => hr (e ▸ hF _ f)
  exact { h with
    blk := hc.blk h.blk (no h.rt (by simp))
    mp := h.mp.chg hc (no h.rp (by simp))
    mw := h.mw.chg hc (no h.rw (by simp))
    mn := h.mn.chg hc (no h.rn (by simp))
    pl := fun s p hp => by
      obtain ⟨h1, h2, h3, h4⟩ := h.pl s p hp
      exact ⟨h1.chg hc (no h2 (by simp)) (no h3 (by simp)) (fun b hb => no (h4 b hb) (by simp)), h2, h3, h4⟩
    nm := fun o f hf => by
      obtain ⟨h1, h2⟩ := h.nm o f hf
      exact ⟨h1.chg hc (no h2 (by simp)), h2⟩
    lt := fun k hk => Nat.lt_of_lt_of_le (h.lt k hk) hc.size }
theorem Tab.chg0 (h : Tab w tb m L ρ) (hc : Chg NoB w w') : Tab w' tb m L ρ := h.chg hc (fun _ f => f.elim)
end
def TM.empty : TM := ⟨fun _ => none, fun _ => none, fun _ => none⟩
end Go.Proofs.Ytjnbbmchmkiodaa
