/- Ask: an operation by its number. Deeds: what comes in. -/
import Derived.Test.YthgejjlhfdegeaaDiskJ
namespace Go.Proofs.Ythgejjlhfdegeaa
open Go.RowKit Go.MapKept

def DM.ask (m : DM) (op n : Int) (b : List UInt8) : DM × Int :=
  if op = 0 then m.write n b else if op = 1 then m.sync else if op = 2 then m.append b else if op = 3 then m.force else if op = 4 then m.cut n b else if op = 5 then m.trim n else m.setMark b

set_option maxHeartbeats 1000000 in
theorem ask_calls {w : World} {sb : Nat} {m : DM} {F C : Nat → Prop} (h : Disk w sb m F C) (op n : Int) (ba : Option Addr) (bn bc : Nat) (l : List UInt8) (hb : BS w ba bn bc l) (hbF : ∀ b, ba = some b → 0 < bn → ¬ F b.block) (hmax : bn ≤ maxLen) (hcnt : (m.waiting.length + 1) * 32 ≤ 140737488355328) :
    Calls Try.prog 25 #[.pointer (some ⟨sb, 0, none⟩), .int .i64 op, .int .i64 n, .slice ba bn bc] w (DRes w sb F C (m.ask op n l)) := by
  have HB := hide hb; have HF := hide hbF; have HM := hide hmax; have HC := hide hcnt
  clear hb hbF hmax hcnt
  by_cases h0 : op = 0
  · have e : m.ask op n l = m.write n l := by simp [DM.ask, h0]
    rw [e]; clear e
    subst h0
    go_enter Try.func25, Try.ntmps25
    go_wp2_with fail
    refine (h.write n _ _ _ l HB.out HC.out).mono ?_
    rintro e w' ⟨rfl, hd⟩
    go_wp2_with fail
    go_ret
    exact ⟨rfl, hd⟩
  by_cases h1 : op = 1
  · have e : m.ask op n l = m.sync := by simp [DM.ask, h1]
    rw [e]; clear e h0
    subst h1
    go_enter Try.func25, Try.ntmps25
    go_wp2_with fail
    refine (h.sync).mono ?_
    rintro e w' ⟨rfl, hd⟩
    go_wp2_with fail
    go_ret
    exact ⟨rfl, hd⟩
  by_cases h2 : op = 2
  · have e : m.ask op n l = m.append l := by simp [DM.ask, h2]
    rw [e]; clear e h0 h1
    subst h2
    go_enter Try.func25, Try.ntmps25
    go_wp2_with fail
    refine (h.append _ _ _ l HB.out HF.out HM.out).mono ?_
    rintro e w' ⟨rfl, hd⟩
    go_wp2_with fail
    go_ret
    exact ⟨rfl, hd⟩
  by_cases h3 : op = 3
  · have e : m.ask op n l = m.force := by simp [DM.ask, h3]
    rw [e]; clear e h0 h1 h2
    subst h3
    go_enter Try.func25, Try.ntmps25
    go_wp2_with fail
    refine (h.force).mono ?_
    rintro e w' ⟨rfl, hd⟩
    go_wp2_with fail
    go_ret
    exact ⟨rfl, hd⟩
  by_cases h4 : op = 4
  · have e : m.ask op n l = m.cut n l := by simp [DM.ask, h4]
    rw [e]; clear e h0 h1 h2 h3
    subst h4
    go_enter Try.func25, Try.ntmps25
    go_wp2_with fail
    refine (h.cut n _ _ _ l HB.out HF.out).mono ?_
    rintro e w' ⟨rfl, hd⟩
    go_wp2_with fail
    go_ret
    exact ⟨rfl, hd⟩
  by_cases h5 : op = 5
  · have e : m.ask op n l = m.trim n := by simp [DM.ask, h5]
    rw [e]; clear e h0 h1 h2 h3 h4
    subst h5
    go_enter Try.func25, Try.ntmps25
    go_wp2_with fail
    refine (h.trim n).mono ?_
    rintro e w' ⟨rfl, hd⟩
    go_wp2_with fail
    go_ret
    exact ⟨rfl, hd⟩
  have e : m.ask op n l = m.setMark l := by simp [DM.ask, h0, h1, h2, h3, h4, h5]
  rw [e]; clear e
  go_enter Try.func25, Try.ntmps25
  go_wp2_with fail
  refine (h.mark _ _ _ l HB.out HF.out).mono ?_
  rintro e w' ⟨rfl, hd⟩
  go_wp2_with fail
  go_ret
  exact ⟨rfl, hd⟩

/-- A deed, as it lies: three cells. -/
structure Dd where
  op : Int
  n : Int
  a : Option Addr
  k : Nat
  c : Nat
  b : List UInt8
structure Dd.At (w : World) (g o : Nat) (d : Dd) : Prop where
  op : w.cell? ⟨g, o, none⟩ = some (.int .i64 d.op)
  n : w.cell? ⟨g, o + 1, none⟩ = some (.int .i64 d.n)
  v : w.cell? ⟨g, o + 2, none⟩ = some (.slice d.a d.k d.c)
  bs : BS w d.a d.k d.c d.b
  max : d.k ≤ maxLen
theorem Dd.At.chg0 {w w' : World} {g o : Nat} {d : Dd} (h : d.At w g o) (hc : Chg NoB w w') : d.At w' g o :=
  have f : ∀ p v, w.cell? p = some v → w'.cell? p = some v := fun p v hv => by rw [hc.cell (cell_some hv).1 (fun f => f)]; exact hv
  ⟨f _ _ h.op, f _ _ h.n, f _ _ h.v, h.bs.chg0 hc, h.max⟩
/-- A row of deeds that came in. -/
structure Dds (w : World) (a : Option Addr) (len : Nat) (l : List Dd) : Prop where
  len : len = l.length
  at_ : ∀ (i : Nat) (d : Dd), l[i]? = some d → ∃ g o, a = some ⟨g, o, none⟩ ∧ d.At w g (o + i * 3)
end Go.Proofs.Ythgejjlhfdegeaa
