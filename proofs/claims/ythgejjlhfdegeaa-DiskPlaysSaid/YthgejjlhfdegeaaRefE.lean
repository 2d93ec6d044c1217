/- The reference's device: an operation; what it refuses. -/
import Derived.Test.YthgejjlhfdegeaaRefD
import Derived.Test.YthgejjlhfdegeaaHeld
namespace Go.Proofs.Ythgejjlhfdegeaa
open Go.RowKit Go.MapKept

theorem results_row2 {P : Program} {fn : Func} {p q : Tmp} {ty : TypeId} (h : fn.results = #[.cell p ty, .tmp q]) (tmps : Array Value) (w : World) (g : Nat) (t : TypeId) (cs : Array Value) (fr : Nat × Nat) (d : TypeDesc) (v : Value)
    (hp : tmps.getD p undef = .pointer (some ⟨g, 0, none⟩)) (hq : tmps.getD q undef = v) (hg : w.heap[g]? = some (.cells cs t fr))
    (hu : P.underlying ty = some d) (hd : (match d with | .struct _ | .array _ _ => true | _ => false) = true) (hi : (P.info? ty).map (·.size) = some cs.size) :
    (results fn tmps).run P w = .ok (.tuple #[.agg cs, v]) w := by
  have hp' : tmps[p]?.getD undef = .pointer (some ⟨g, 0, none⟩) := by simpa using hp
  have hq' : tmps[q]?.getD undef = v := by simpa using hq
  simp [results, h, hp', hq', asAddr, run_loadVar_row w g t ty cs fr d hg hu hd hi]

/-- What an operation leaves. -/
def DoR (w : World) (G : Nat → Prop) (r : DM × Int) (e : Ending) (w' : World) : Prop :=
  ∃ L', e = .returned (.tuple #[.agg (rcells r.1 L'), .int .i64 r.2]) ∧ RefAt w' (fun k => G k ∨ w.heap.size ≤ k) r.1 L' ∧ Chg NoB w w'

/-- The two boxes as the walk goes on. -/
structure DoW (w w1 : World) (cur : Array Value) : Prop where
  blk : w1.heap[w.heap.size]? = some (.cells cur 52 (0, 0))
  res : ∃ cs, w1.heap[w.heap.size + 1]? = some (.cells cs 52 (0, 0)) ∧ cs.size = 13
  size : cur.size = 13
  chg : Chg NoB w w1
section
variable {w w1 w2 : World} {cur : Array Value}
theorem DoW.same (h : DoW w w1 cur) (hc : Chg NoB w1 w2) : DoW w w2 cur := by
  obtain ⟨cs, h1, h2⟩ := h.res
  exact ⟨hc.blk h.blk (fun f => f), ⟨cs, hc.blk h1 (fun f => f), h2⟩, h.size, h.chg.trans hc⟩
theorem DoW.set (h : DoW w w1 cur) (i : Nat) (v : Value) : DoW w (w1.setCell ⟨w.heap.size, i, none⟩ v) (cur.setIfInBounds i v) := by
  obtain ⟨cs, h1, h2⟩ := h.res
  exact ⟨setCell_blk h.blk v, ⟨cs, setCell_blk_other h1 (by omega) v, h2⟩, by simpa using h.size, h.chg.trans' (Chg.cell1 _ _ _ _) (fun i hi => .inr (by omega))⟩
theorem DoW.setRow (h : DoW w w1 cur) (cs' : Array Value) (hs : cs'.size = 13) : DoW w (w1.setRow w.heap.size cs') cs' := by
  obtain ⟨cs, h1, h2⟩ := h.res
  have hc := Chg.setRow1 w1 w.heap.size cs'
  exact ⟨setRow_heap _ _ _ cs' _ _ h.blk, ⟨cs, hc.blk h1 (by omega), h2⟩, hs, h.chg.trans' hc (fun i hi => .inr (by omega))⟩
theorem DoW.cell (h : DoW w w1 cur) (i : Nat) {v : Value} (hv : cur[i]? = some v) : w1.cell? ⟨w.heap.size, i, none⟩ = some v := by rw [cell_of_row w1 _ _ _ _ _ h.blk]; exact hv
theorem DoW.free (h : DoW w w1 cur) (i : Nat) : w1.frozen? ⟨w.heap.size, i, none⟩ = false := unfrozen h.blk i
theorem DoW.lt (h : DoW w w1 cur) : w.heap.size + 1 < w1.heap.size := by obtain ⟨cs, h1, _⟩ := h.res; exact heap_lt h1
theorem DoW.start (cs cz : Array Value) (w : World) (h1 : cs.size = 13) (h2 : cz.size = 13) : DoW w ((w.alloc (.cells cs 52)).alloc (.cells cz 52)) cs :=
  ⟨alloc_blk (heap_alloc_new w _) _, ⟨cz, heap_alloc_new' _ (by simp) _, h2⟩, h1, (Chg.alloc _ _ _).trans (Chg.alloc _ _ _)⟩
end
/-- What an operation may lead to while it runs: not its boxes. -/
def GG (w : World) (G : Nat → Prop) (k : Nat) : Prop := G k ∨ w.heap.size + 2 ≤ k
/-- Old blocks alone. -/
def Olds (w : World) (G : Nat → Prop) : Prop := ∀ k, G k → k < w.heap.size
theorem RefAt.box {w w1 w2 : World} {G : Nat → Prop} {m : DM} {L : RL} (h : RefAt w1 (GG w G) m L) (hG : Olds w G) {F : Nat → Prop} (hc : Chg F w1 w2) (hF : ∀ k, F k → k = w.heap.size ∨ k = w.heap.size + 1) : RefAt w2 (GG w G) m L :=
  h.chg hc (fun k hk hf => by
    have := hF k hf
    rcases hk with hk | hk
    · have := hG k hk; omega
    · omega)
theorem GG.sv {w w1 w2 : World} {G : Nat → Prop} {v : Value} {l : List UInt8} (h : SV w1 (GG w G) v l) (hG : Olds w G) {F : Nat → Prop} (hc : Chg F w1 w2) (hF : ∀ k, F k → k = w.heap.size ∨ k = w.heap.size + 1) : SV w2 (GG w G) v l :=
  h.chg hc (fun k hk hf => by
    have := hF k hf
    rcases hk with hk | hk
    · have := hG k hk; omega
    · omega)
/-- The end. -/
theorem DoW.fin {w w1 : World} {G : Nat → Prop} {m : DM} {L : RL} {n : Int} {a : Act} (h : DoW w w1 (rcells m L)) (hG : Olds w G) (hd : a.defers = []) (hp : a.tmps.getD 8 undef = .pointer (some ⟨w.heap.size + 1, 0, none⟩)) (hq : a.tmps.getD 9 undef = .int .i64 n)
    (hr : RefAt w1 (GG w G) m L) : bodyPost Try.prog Try.f32 (DoR w G (m, n)) .ret a (w1.setRow (w.heap.size + 1) (rcells m L)) := by
  obtain ⟨cs, h1, h2⟩ := h.res
  have hc := Chg.setRow1 w1 (w.heap.size + 1) (rcells m L)
  exact ⟨hd, _, results_row2 (P := Try.prog) Try.results32 _ _ (w.heap.size + 1) _ _ _ _ _ hp hq (setRow_heap _ _ _ _ _ _ h1) Try.underlying52 rfl infoRf, L, rfl, (hr.box hG hc (fun k hk => .inr hk)).mono (fun k hk => hk.imp id (fun h => by omega)), h.chg.trans' hc (fun i hi => .inr (by omega))⟩

theorem RefAt.count {w : World} {G : Nat → Prop} {m : DM} {L : RL} (h : RefAt w G m L) : RefAt w G m.count.1 L := by
  unfold DM.count
  split <;> exact { h with }
theorem RefAt.wide {w w1 : World} {G : Nat → Prop} {m : DM} {L : RL} (h : RefAt w G m L) (hc : Chg NoB w w1) : RefAt w1 (GG w G) m L := (h.chg0 hc).mono fun _ hk => .inl hk

/-- The device as it was, with an error. -/
theorem DoR.lit {w w1 : World} {G : Nat → Prop} {m : DM} {L : RL} (h : RefAt w G m L) (n : Int) {a : Act} (hd : a.defers = []) (hr : (results Try.f32 a.tmps).run Try.prog w1 = .ok (.tuple #[.agg (rcells m L), .int .i64 n]) w1) (hc : Chg NoB w w1) : bodyPost Try.prog Try.f32 (DoR w G (m, n)) .ret a w1 :=
  ⟨hd, _, hr, L, rfl, (h.chg0 hc).mono fun _ hk => .inl hk, hc⟩

set_option maxRecDepth 100000 in
theorem doR_dead {w : World} {G : Nat → Prop} {m : DM} {L : RL} (h : RefAt w G m L) (hm : m.dead = true) (op n : Int) (ba : Option Addr) (bn bc : Nat) :
    Calls Try.prog 32 #[.agg (rcells m L), .int .i64 op, .int .i64 n, .slice ba bn bc] w (DoR w G (m, 9)) := by
  have H := fun w1 a => DoR.lit (w1 := w1) (a := a) h 9
  unfold rcells at H ⊢
  rw [hm] at H ⊢
  have HH := hide H
  clear H h
  generalize m.waiting.length = n1 at HH ⊢; generalize m.base.length = n2 at HH ⊢; generalize m.log.length = n3 at HH ⊢; generalize m.mark.length = n4 at HH ⊢; generalize m.tail.length = n5 at HH ⊢; generalize m.torn.isSome = n6 at HH ⊢
  clear hm
  go_enter Try.func32, Try.ntmps32
  go_wp2_with fail
  exact HH.out _ _ rfl (by simp [results, Try.results32, go_sem]) ((Chg.alloc _ _ _).trans (Chg.alloc _ _ _))

set_option maxHeartbeats 1000000 in
set_option maxRecDepth 100000 in
theorem doR_no0_neg {w : World} {G : Nat → Prop} {m : DM} {L : RL} (h : RefAt w G m L) (hm : m.dead = false) (n : Int) (ba : Option Addr) (bn bc : Nat) (hc : n < 0) :
    Calls Try.prog 32 #[.agg (rcells m L), .int .i64 0, .int .i64 n, .slice ba bn bc] w (DoR w G (m, 1)) := by
  have H := fun w1 a => DoR.lit (w1 := w1) (a := a) h 1
  unfold rcells at H ⊢
  rw [hm] at H ⊢
  have HH := hide H
  clear H h
  generalize m.waiting.length = n1 at *; generalize m.base.length = n2 at *; generalize m.log.length = n3 at *; generalize m.mark.length = n4 at *; generalize m.tail.length = n5 at *; generalize m.torn.isSome = n6 at *
  clear hm
  go_enter Try.func32, Try.ntmps32
  go_wp2_with fail
  exact HH.out _ _ rfl (by simp [results, Try.results32, go_sem]) ((Chg.alloc _ _ _).trans (Chg.alloc _ _ _))

set_option maxHeartbeats 1000000 in
set_option maxRecDepth 100000 in
theorem doR_no0_big {w : World} {G : Nat → Prop} {m : DM} {L : RL} (h : RefAt w G m L) (hm : m.dead = false) (n : Int) (ba : Option Addr) (bn bc : Nat) (h0 : ¬ n < 0) (hc : (m.base.length : Int) ≤ n) :
    Calls Try.prog 32 #[.agg (rcells m L), .int .i64 0, .int .i64 n, .slice ba bn bc] w (DoR w G (m, 1)) := by
  have H := fun w1 a => DoR.lit (w1 := w1) (a := a) h 1
  unfold rcells at H ⊢
  rw [hm] at H ⊢
  have HH := hide H
  clear H h
  generalize m.waiting.length = n1 at *; generalize m.base.length = n2 at *; generalize m.log.length = n3 at *; generalize m.mark.length = n4 at *; generalize m.tail.length = n5 at *; generalize m.torn.isSome = n6 at *
  clear hm
  go_enter Try.func32, Try.ntmps32
  go_wp2_with fail
  exact HH.out _ _ rfl (by simp [results, Try.results32, go_sem]) ((Chg.alloc _ _ _).trans (Chg.alloc _ _ _))

set_option maxHeartbeats 1000000 in
set_option maxRecDepth 100000 in
theorem doR_no0_len {w : World} {G : Nat → Prop} {m : DM} {L : RL} (h : RefAt w G m L) (hm : m.dead = false) (n : Int) (ba : Option Addr) (bn bc : Nat) (h0 : ¬ n < 0) (h1 : ¬ (m.base.length : Int) ≤ n) (hc : ((bn : Int) == 512) = false) :
    Calls Try.prog 32 #[.agg (rcells m L), .int .i64 0, .int .i64 n, .slice ba bn bc] w (DoR w G (m, 1)) := by
  have H := fun w1 a => DoR.lit (w1 := w1) (a := a) h 1
  unfold rcells at H ⊢
  rw [hm] at H ⊢
  have HH := hide H
  clear H h
  generalize m.waiting.length = n1 at *; generalize m.base.length = n2 at *; generalize m.log.length = n3 at *; generalize m.mark.length = n4 at *; generalize m.tail.length = n5 at *; generalize m.torn.isSome = n6 at *
  clear hm
  go_enter Try.func32, Try.ntmps32
  go_wp2_with fail
  exact HH.out _ _ rfl (by simp [results, Try.results32, go_sem]) ((Chg.alloc _ _ _).trans (Chg.alloc _ _ _))

set_option maxHeartbeats 1000000 in
set_option maxRecDepth 100000 in
theorem doR_no2 {w : World} {G : Nat → Prop} {m : DM} {L : RL} (h : RefAt w G m L) (hm : m.dead = false) (n : Int) (ba : Option Addr) (bn bc : Nat) (hc : (m.room : Int) < (m.log.length : Int) + (bn : Int)) (hb : (m.log.length : Int) + (bn : Int) ≤ 9223372036854775807) :
    Calls Try.prog 32 #[.agg (rcells m L), .int .i64 2, .int .i64 n, .slice ba bn bc] w (DoR w G (m, 7)) := by
  have H := fun w1 a => DoR.lit (w1 := w1) (a := a) h 7
  unfold rcells at H ⊢
  rw [hm] at H ⊢
  have HH := hide H
  clear H h
  generalize m.waiting.length = n1 at *; generalize m.base.length = n2 at *; generalize m.log.length = n3 at *; generalize m.mark.length = n4 at *; generalize m.tail.length = n5 at *; generalize m.torn.isSome = n6 at *
  clear hm
  go_enter Try.func32, Try.ntmps32
  go_wp2_with fail
  exact HH.out _ _ rfl (by simp [results, Try.results32, go_sem]) ((Chg.alloc _ _ _).trans (Chg.alloc _ _ _))

set_option maxHeartbeats 1000000 in
set_option maxRecDepth 100000 in
theorem doR_no4_neg {w : World} {G : Nat → Prop} {m : DM} {L : RL} (h : RefAt w G m L) (hm : m.dead = false) (n : Int) (ba : Option Addr) (bn bc : Nat) (hc : n < 0) :
    Calls Try.prog 32 #[.agg (rcells m L), .int .i64 4, .int .i64 n, .slice ba bn bc] w (DoR w G (m, 1)) := by
  have H := fun w1 a => DoR.lit (w1 := w1) (a := a) h 1
  unfold rcells at H ⊢
  rw [hm] at H ⊢
  have HH := hide H
  clear H h
  generalize m.waiting.length = n1 at *; generalize m.base.length = n2 at *; generalize m.log.length = n3 at *; generalize m.mark.length = n4 at *; generalize m.tail.length = n5 at *; generalize m.torn.isSome = n6 at *
  clear hm
  go_enter Try.func32, Try.ntmps32
  go_wp2_with fail
  exact HH.out _ _ rfl (by simp [results, Try.results32, go_sem]) ((Chg.alloc _ _ _).trans (Chg.alloc _ _ _))

set_option maxHeartbeats 1000000 in
set_option maxRecDepth 100000 in
theorem doR_no4_big {w : World} {G : Nat → Prop} {m : DM} {L : RL} (h : RefAt w G m L) (hm : m.dead = false) (n : Int) (ba : Option Addr) (bn bc : Nat) (h0 : ¬ n < 0) (hc : (m.certain : Int) < n) :
    Calls Try.prog 32 #[.agg (rcells m L), .int .i64 4, .int .i64 n, .slice ba bn bc] w (DoR w G (m, 1)) := by
  have H := fun w1 a => DoR.lit (w1 := w1) (a := a) h 1
  unfold rcells at H ⊢
  rw [hm] at H ⊢
  have HH := hide H
  clear H h
  generalize m.waiting.length = n1 at *; generalize m.base.length = n2 at *; generalize m.log.length = n3 at *; generalize m.mark.length = n4 at *; generalize m.tail.length = n5 at *; generalize m.torn.isSome = n6 at *
  clear hm
  go_enter Try.func32, Try.ntmps32
  go_wp2_with fail
  exact HH.out _ _ rfl (by simp [results, Try.results32, go_sem]) ((Chg.alloc _ _ _).trans (Chg.alloc _ _ _))

set_option maxHeartbeats 1000000 in
set_option maxRecDepth 100000 in
theorem doR_no4_len {w : World} {G : Nat → Prop} {m : DM} {L : RL} (h : RefAt w G m L) (hm : m.dead = false) (n : Int) (ba : Option Addr) (bn bc : Nat) (h0 : ¬ n < 0) (h1 : ¬ (m.certain : Int) < n) (hc : (64 : Int) < (bn : Int)) :
    Calls Try.prog 32 #[.agg (rcells m L), .int .i64 4, .int .i64 n, .slice ba bn bc] w (DoR w G (m, 1)) := by
  have H := fun w1 a => DoR.lit (w1 := w1) (a := a) h 1
  unfold rcells at H ⊢
  rw [hm] at H ⊢
  have HH := hide H
  clear H h
  generalize m.waiting.length = n1 at *; generalize m.base.length = n2 at *; generalize m.log.length = n3 at *; generalize m.mark.length = n4 at *; generalize m.tail.length = n5 at *; generalize m.torn.isSome = n6 at *
  clear hm
  go_enter Try.func32, Try.ntmps32
  go_wp2_with fail
  exact HH.out _ _ rfl (by simp [results, Try.results32, go_sem]) ((Chg.alloc _ _ _).trans (Chg.alloc _ _ _))

set_option maxHeartbeats 1000000 in
set_option maxRecDepth 100000 in
theorem doR_no5_neg {w : World} {G : Nat → Prop} {m : DM} {L : RL} (h : RefAt w G m L) (hm : m.dead = false) (n : Int) (ba : Option Addr) (bn bc : Nat) (hc : n < 0) :
    Calls Try.prog 32 #[.agg (rcells m L), .int .i64 5, .int .i64 n, .slice ba bn bc] w (DoR w G (m, 1)) := by
  have H := fun w1 a => DoR.lit (w1 := w1) (a := a) h 1
  unfold rcells at H ⊢
  rw [hm] at H ⊢
  have HH := hide H
  clear H h
  generalize m.waiting.length = n1 at *; generalize m.base.length = n2 at *; generalize m.log.length = n3 at *; generalize m.mark.length = n4 at *; generalize m.tail.length = n5 at *; generalize m.torn.isSome = n6 at *
  clear hm
  go_enter Try.func32, Try.ntmps32
  go_wp2_with fail
  exact HH.out _ _ rfl (by simp [results, Try.results32, go_sem]) ((Chg.alloc _ _ _).trans (Chg.alloc _ _ _))

set_option maxHeartbeats 1000000 in
set_option maxRecDepth 100000 in
theorem doR_no5_big {w : World} {G : Nat → Prop} {m : DM} {L : RL} (h : RefAt w G m L) (hm : m.dead = false) (n : Int) (ba : Option Addr) (bn bc : Nat) (h0 : ¬ n < 0) (hc : (m.log.length : Int) < n) :
    Calls Try.prog 32 #[.agg (rcells m L), .int .i64 5, .int .i64 n, .slice ba bn bc] w (DoR w G (m, 1)) := by
  have H := fun w1 a => DoR.lit (w1 := w1) (a := a) h 1
  unfold rcells at H ⊢
  rw [hm] at H ⊢
  have HH := hide H
  clear H h
  generalize m.waiting.length = n1 at *; generalize m.base.length = n2 at *; generalize m.log.length = n3 at *; generalize m.mark.length = n4 at *; generalize m.tail.length = n5 at *; generalize m.torn.isSome = n6 at *
  clear hm
  go_enter Try.func32, Try.ntmps32
  go_wp2_with fail
  exact HH.out _ _ rfl (by simp [results, Try.results32, go_sem]) ((Chg.alloc _ _ _).trans (Chg.alloc _ _ _))

set_option maxHeartbeats 1000000 in
set_option maxRecDepth 100000 in
theorem doR_no6 {w : World} {G : Nat → Prop} {m : DM} {L : RL} (h : RefAt w G m L) (hm : m.dead = false) (n : Int) (ba : Option Addr) (bn bc : Nat) (hc : (64 : Int) < (bn : Int)) :
    Calls Try.prog 32 #[.agg (rcells m L), .int .i64 6, .int .i64 n, .slice ba bn bc] w (DoR w G (m, 1)) := by
  have H := fun w1 a => DoR.lit (w1 := w1) (a := a) h 1
  unfold rcells at H ⊢
  rw [hm] at H ⊢
  have HH := hide H
  clear H h
  generalize m.waiting.length = n1 at *; generalize m.base.length = n2 at *; generalize m.log.length = n3 at *; generalize m.mark.length = n4 at *; generalize m.tail.length = n5 at *; generalize m.torn.isSome = n6 at *
  clear hm
  go_enter Try.func32, Try.ntmps32
  go_wp2_with fail
  exact HH.out _ _ rfl (by simp [results, Try.results32, go_sem]) ((Chg.alloc _ _ _).trans (Chg.alloc _ _ _))
end Go.Proofs.Ythgejjlhfdegeaa
