/- How a device lies in memory. -/
import Derived.Test.YthgejjlhfdegeaaProg
import Derived.Test.YthgejjlhfdegeaaMap
import Derived.Test.YthgejjlhfdegeaaDm
import Derived.KernelRfl
namespace Go.Proofs.Ythgejjlhfdegeaa
open Go.RowKit Go.MapKept

theorem infoU8 : (Try.prog.info? 5).map (fun i => (i.zero, i.size, i.bytes)) = some (some (.int .u8 0), 1, 1) := by kernel_rfl
theorem infoPg : (Try.prog.info? 28).map (fun i => (i.zero, i.size, i.bytes)) = some (some (.slice none 0 0), 1, 24) := by kernel_rfl
theorem infoWr : (Try.prog.info? 70).map (fun i => (i.zero, i.size, i.bytes)) = some (some (.agg #[.int .i64 0, .slice none 0 0]), 2, 32) := by kernel_rfl

/-- The map's key. -/
def encI (n : Int) : Value := .int .i64 n
theorem encI_inj : ∀ a b : Int, encI a = encI b → a = b := fun a b h => by simpa [encI] using h
theorem encI_key : ∀ k : Int, IsKey (.int .i64) (encI k) := fun _ => rfl

/-- Block of an address. -/
def blkOf (a : Option Addr) (k : Nat) : Prop := ∃ b, a = some b ∧ b.block = k

/-- A page's cell: nil stands for noughts. -/
structure PR where
  v : Value
  l : List UInt8
def PR.At (w : World) (C : Nat → Prop) (r : PR) : Prop :=
  (r.v = .slice none 0 0 ∧ r.l = zeros512) ∨ ∃ a c, r.v = .slice (some a) 512 c ∧ BS w (some a) 512 c r.l ∧ C a.block
/-- A page's write as it waits. -/
structure WR where
  page : Nat
  a : Addr
  c : Nat
  l : List UInt8
def WR.v (r : WR) : Value := .slice (some r.a) 512 r.c
def WR.cells (r : WR) : List Value := [.int .i64 r.page, r.v]
def WR.At (w : World) (C : Nat → Prop) (r : WR) : Prop := BS w (some r.a) 512 r.c r.l ∧ C r.a.block

structure DL where
  pb : Nat
  ps : List PR
  wa : Option Addr
  wc : Nat
  ws : List WR
  mb : Nat
  mp : Int → Option Value
  la : Option Addr
  lc : Nat
  ma : Option Addr
  mc : Nat
  tp : Option Addr
  ta : Option Addr
  tc : Nat

def dcells (m : DM) (L : DL) : Array Value :=
  #[.int .i64 m.room, .slice (some ⟨L.pb, 0, none⟩) m.base.length m.base.length, .slice L.wa m.waiting.length L.wc, .map (some L.mb), .slice L.la m.log.length L.lc, .int .i64 m.certain,
    .slice L.ma m.mark.length L.mc, .int .i64 m.fuse, .int .i64 m.ops, .bool m.dead, .pointer L.tp, .slice L.ta m.tail.length L.tc]

/-- The pages that wait, by their last write. -/
def nowOf (ws : List WR) (n : Int) : Option Value := if 0 ≤ n then (lastOf (ws.map fun r => (r.page, r)) n.toNat).map WR.v else none

def TornAt (w : World) (C : Nat → Prop) (tp : Option Addr) : Option (Nat × List UInt8) → Prop
  | none => tp = none
  | some (p, l) => ∃ tb a c, tp = some ⟨tb, 0, none⟩ ∧ C tb ∧ w.heap[tb]? = some (.cells #[.int .i64 p, .slice (some a) 512 c] 70 (0, 0)) ∧ BS w (some a) 512 c l ∧ C a.block

/-- What a device leads to. -/
structure DiskMem (w : World) (m : DM) (L : DL) (C : Nat → Prop) : Prop where
  pages : w.heap[L.pb]? = some (.cells (L.ps.map PR.v).toArray 28 (0, 0))
  psl : m.base = L.ps.map PR.l
  psv : ∀ r ∈ L.ps, r.At w C
  wait : w.ownsRow 0 70 2 (.slice L.wa m.waiting.length L.wc) m.waiting.length (L.ws.flatMap WR.cells)
  wsl : m.waiting = L.ws.map fun r => (r.page, r.l)
  wsv : ∀ r ∈ L.ws, r.At w C
  map : MapAt w L.mb (.int .i64) encI L.mp
  now : ∀ n, L.mp n = nowOf L.ws n
  log : w.ownsRow 0 5 1 (.slice L.la m.log.length L.lc) m.log.length (bcells m.log)
  mark : BS w L.ma m.mark.length L.mc m.mark
  markC : ∀ b, L.ma = some b → C b.block
  tail : BS w L.ta m.tail.length L.tc m.tail
  tailC : ∀ b, L.ta = some b → C b.block
  torn : TornAt w C L.tp m.torn

/-- The blocks that a device writes. -/
def footOf (sb : Nat) (L : DL) (k : Nat) : Prop := k = sb ∨ k = L.pb ∨ k = L.mb ∨ blkOf L.wa k ∨ blkOf L.la k

structure DiskL (w : World) (sb : Nat) (m : DM) (L : DL) (F C : Nat → Prop) : Prop where
  blk : w.heap[sb]? = some (.cells (dcells m L) 66 (0, 0))
  mem : DiskMem w m L C
  ok : m.Ok
  foot : ∀ k, F k ↔ footOf sb L k
  sep : ∀ k, C k → ¬ F k ∧ k < w.heap.size
  s_p : sb ≠ L.pb
  s_m : sb ≠ L.mb
  s_w : ¬ blkOf L.wa sb
  s_l : ¬ blkOf L.la sb
  p_m : L.pb ≠ L.mb
  p_w : ¬ blkOf L.wa L.pb
  p_l : ¬ blkOf L.la L.pb
  m_w : ¬ blkOf L.wa L.mb
  m_l : ¬ blkOf L.la L.mb
  w_l : ∀ k, blkOf L.wa k → ¬ blkOf L.la k

def Disk (w : World) (sb : Nat) (m : DM) (F C : Nat → Prop) : Prop := ∃ L, DiskL w sb m L F C

/-- A step of an owner: it writes its own blocks and new ones, and hands on what it owns. -/
structure Own (w : World) (F C : Nat → Prop) (w' : World) (F' C' : Nat → Prop) : Prop where
  chg : Chg F w w'
  f : ∀ k, F' k → F k ∨ w.heap.size ≤ k
  c : ∀ k, C' k → C k ∨ w.heap.size ≤ k
theorem Own.refl (w : World) (F C : Nat → Prop) : Own w F C w F C := ⟨Chg.refl _ _, fun _ h => .inl h, fun _ h => .inl h⟩
theorem Own.trans {a b c : World} {F C F' C' F'' C'' : Nat → Prop} (h : Own a F C b F' C') (k : Own b F' C' c F'' C'') : Own a F C c F'' C'' :=
  ⟨h.chg.trans' k.chg h.f, fun i hi => (k.f i hi).elim (h.f i) (fun g => .inr (Nat.le_trans h.chg.size g)), fun i hi => (k.c i hi).elim (h.c i) (fun g => .inr (Nat.le_trans h.chg.size g))⟩
/-- What lies apart from an owner stays apart. -/
theorem Own.apart {w w' : World} {F C F' C' G : Nat → Prop} (h : Own w F C w' F' C') (hG : ∀ k, G k → ¬ F k) (hlt : ∀ k, G k → k < w.heap.size) : ∀ k, G k → ¬ F' k := fun k hk hf =>
  (h.f k hf).elim (hG k hk) (fun g => by have := hlt k hk; omega)

theorem ownsRow_chg {w w' : World} {F : Nat → Prop} {base : Nat} {e : TypeId} {size : Nat} {a : Option Addr} {k c n : Nat} {xs : List Value} (h : w.ownsRow base e size (.slice a k c) n xs) (hc : Chg F w w') (hn : ∀ b, a = some b → ¬ F b.block) : w'.ownsRow base e size (.slice a k c) n xs := by
  refine ⟨h.1, ?_⟩
  rcases h.2 with h' | ⟨g, cap, cur, hv, hb, hg, r⟩
  · exact .inl h'
  · refine .inr ⟨g, cap, cur, hv, hb, ?_, r⟩
    simp only [Value.slice.injEq] at hv
    exact hc.blk hg (hn _ hv.1)
theorem PR.At.chg {w w' : World} {F C : Nat → Prop} {r : PR} (h : r.At w C) (hc : Chg F w w') (hn : ∀ k, C k → ¬ F k) : r.At w' C := by
  rcases h with h | ⟨a, c, h1, h2, h3⟩
  · exact .inl h
  · exact .inr ⟨a, c, h1, h2.chg hc (fun b hb => by cases hb; exact hn _ h3), h3⟩
theorem WR.At.chg {w w' : World} {F C : Nat → Prop} {r : WR} (h : r.At w C) (hc : Chg F w w') (hn : ∀ k, C k → ¬ F k) : r.At w' C :=
  ⟨h.1.chg hc (fun b hb => by cases hb; exact hn _ h.2), h.2⟩
theorem TornAt.chg {w w' : World} {F C : Nat → Prop} {tp : Option Addr} {t : Option (Nat × List UInt8)} (h : TornAt w C tp t) (hc : Chg F w w') (hn : ∀ k, C k → ¬ F k) : TornAt w' C tp t := by
  match t, h with
  | none, h => exact h
  | some (p, l), ⟨tb, a, c, h1, h2, h3, h4, h5⟩ => exact ⟨tb, a, c, h1, h2, hc.blk h3 (hn _ h2), h4.chg hc (fun b hb => by cases hb; exact hn _ h5), h5⟩

/-- What is written elsewhere leaves what a device leads to. -/
theorem DiskMem.chg {w w' : World} {m : DM} {L : DL} {C F : Nat → Prop} (h : DiskMem w m L C) (hc : Chg F w w') (hC : ∀ k, C k → ¬ F k)
    (h1 : ¬ F L.pb) (h2 : ¬ F L.mb) (h3 : ∀ k, blkOf L.wa k → ¬ F k) (h4 : ∀ k, blkOf L.la k → ¬ F k) : DiskMem w' m L C where
  pages := hc.blk h.pages h1
  psl := h.psl
  psv r hr := (h.psv r hr).chg hc hC
  wait := ownsRow_chg h.wait hc (fun b hb => h3 _ ⟨b, hb, rfl⟩)
  wsl := h.wsl
  wsv r hr := (h.wsv r hr).chg hc hC
  map := h.map.chg hc h2
  now := h.now
  log := ownsRow_chg h.log hc (fun b hb => h4 _ ⟨b, hb, rfl⟩)
  mark := h.mark.chg hc (fun b hb => hC _ (h.markC b hb))
  markC := h.markC
  tail := h.tail.chg hc (fun b hb => hC _ (h.tailC b hb))
  tailC := h.tailC
  torn := h.torn.chg hc hC

theorem blkOf_lt_row {w : World} {base : Nat} {e : TypeId} {size : Nat} {a : Option Addr} {k c n : Nat} {xs : List Value} (h : w.ownsRow base e size (.slice a k c) n xs) : ∀ j, blkOf a j → j < w.heap.size := by
  rintro j ⟨b, rfl, rfl⟩
  rcases h.2 with ⟨hv, _⟩ | ⟨g, cap, cur, hv, hb, hg, r⟩
  · simp at hv
  · simp only [Value.slice.injEq, Option.some.injEq] at hv
    rw [hv.1]; exact heap_lt hg
theorem DiskL.lt {w : World} {sb : Nat} {m : DM} {L : DL} {F C : Nat → Prop} (h : DiskL w sb m L F C) : ∀ k, F k → k < w.heap.size := by
  intro k hk
  rcases (h.foot k).1 hk with rfl | rfl | rfl | hk | hk
  · exact heap_lt h.blk
  · exact heap_lt h.mem.pages
  · exact h.mem.map.lt
  · exact blkOf_lt_row h.mem.wait k hk
  · exact blkOf_lt_row h.mem.log k hk
theorem Disk.lt {w : World} {sb : Nat} {m : DM} {F C : Nat → Prop} (h : Disk w sb m F C) : ∀ k, F k → k < w.heap.size := by
  obtain ⟨L, h⟩ := h; exact h.lt
theorem Disk.ltC {w : World} {sb : Nat} {m : DM} {F C : Nat → Prop} (h : Disk w sb m F C) : ∀ k, C k → k < w.heap.size := by
  obtain ⟨L, h⟩ := h; exact fun k hk => (h.sep k hk).2
theorem Disk.sep {w : World} {sb : Nat} {m : DM} {F C : Nat → Prop} (h : Disk w sb m F C) : ∀ k, C k → ¬ F k := by
  obtain ⟨L, h⟩ := h; exact fun k hk => (h.sep k hk).1
theorem Disk.ok {w : World} {sb : Nat} {m : DM} {F C : Nat → Prop} (h : Disk w sb m F C) : m.Ok := by
  obtain ⟨L, h⟩ := h; exact h.ok

/-- A device stays what it is while others write elsewhere. -/
theorem DiskL.chg {w w' : World} {sb : Nat} {m : DM} {L : DL} {F C G : Nat → Prop} (h : DiskL w sb m L F C) (hc : Chg G w w') (hF : ∀ k, F k → ¬ G k) (hC : ∀ k, C k → ¬ G k) : DiskL w' sb m L F C :=
  { h with
    blk := hc.blk h.blk (hF _ ((h.foot _).2 (.inl rfl)))
    mem := h.mem.chg hc hC (hF _ ((h.foot _).2 (.inr (.inl rfl)))) (hF _ ((h.foot _).2 (.inr (.inr (.inl rfl))))) (fun _ hk => hF _ ((h.foot _).2 (.inr (.inr (.inr (.inl hk)))))) (fun _ hk => hF _ ((h.foot _).2 (.inr (.inr (.inr (.inr hk))))))
    sep := fun k hk => ⟨(h.sep k hk).1, Nat.lt_of_lt_of_le (h.sep k hk).2 hc.size⟩ }
theorem Disk.chg {w w' : World} {sb : Nat} {m : DM} {F C G : Nat → Prop} (h : Disk w sb m F C) (hc : Chg G w w') (hF : ∀ k, F k → ¬ G k) (hC : ∀ k, C k → ¬ G k) : Disk w' sb m F C := by
  obtain ⟨L, h⟩ := h; exact ⟨L, h.chg hc hF hC⟩
theorem Disk.chg0 {w w' : World} {sb : Nat} {m : DM} {F C : Nat → Prop} (h : Disk w sb m F C) (hc : Chg NoB w w') : Disk w' sb m F C := h.chg hc (fun _ _ f => f) (fun _ _ f => f)

theorem DiskL.drewN {w : World} {sb : Nat} {m : DM} {L : DL} {F C : Nat → Prop} (h : DiskL w sb m L F C) (n : Nat) : DiskL (w.drewN n) sb m L F C := h.chg (Chg.drewN NoB w n) (fun _ _ f => f) (fun _ _ f => f)
theorem DiskL.drew {w : World} {sb : Nat} {m : DM} {L : DL} {F C : Nat → Prop} (h : DiskL w sb m L F C) : DiskL w.drew sb m L F C := h.chg (Chg.drew NoB w) (fun _ _ f => f) (fun _ _ f => f)
theorem BS.drewN {w : World} {a : Option Addr} {n c : Nat} {l : List UInt8} (h : BS w a n c l) (k : Nat) : BS (w.drewN k) a n c l := h.chg0 (Chg.drewN _ _ _)

/-- The struct's own cells written: what it leads to stays. -/
theorem DiskL.struct {w w' : World} {sb : Nat} {m m' : DM} {L L' : DL} {F C : Nat → Prop} (h : DiskL w sb m L F C) (hc : Chg (fun k => k = sb) w w')
    (hb : w'.heap[sb]? = some (.cells (dcells m' L') 66 (0, 0))) (hok : m'.Ok) (hm : DiskMem w' m L C → DiskMem w' m' L' C)
    (e1 : L'.pb = L.pb) (e2 : L'.mb = L.mb) (e3 : L'.wa = L.wa) (e4 : L'.la = L.la) : DiskL w' sb m' L' F C where
  blk := hb
  mem := hm (h.mem.chg hc (fun k hk e => (h.sep k hk).1 ((h.foot k).2 (.inl e))) (Ne.symm h.s_p) (Ne.symm h.s_m) (fun k hk e => h.s_w (e ▸ hk)) (fun k hk e => h.s_l (e ▸ hk)))
  ok := hok
  foot k := by rw [h.foot]; unfold footOf; rw [e1, e2, e3, e4]
  sep k hk := ⟨(h.sep k hk).1, Nat.lt_of_lt_of_le (h.sep k hk).2 hc.size⟩
  s_p := e1 ▸ h.s_p
  s_m := e2 ▸ h.s_m
  s_w := e3 ▸ h.s_w
  s_l := e4 ▸ h.s_l
  p_m := e1 ▸ e2 ▸ h.p_m
  p_w := e1 ▸ e3 ▸ h.p_w
  p_l := e1 ▸ e4 ▸ h.p_l
  m_w := e2 ▸ e3 ▸ h.m_w
  m_l := e2 ▸ e4 ▸ h.m_l
  w_l := by rw [e3, e4]; exact h.w_l

theorem PR.At.mono {w : World} {C C' : Nat → Prop} {r : PR} (h : r.At w C) (hC : ∀ k, C k → C' k) : r.At w C' := by
  rcases h with h | ⟨a, c, h1, h2, h3⟩
  · exact .inl h
  · exact .inr ⟨a, c, h1, h2, hC _ h3⟩
theorem TornAt.mono {w : World} {C C' : Nat → Prop} {tp : Option Addr} {t : Option (Nat × List UInt8)} (h : TornAt w C tp t) (hC : ∀ k, C k → C' k) : TornAt w C' tp t := by
  match t, h with
  | none, h => exact h
  | some (p, l), ⟨tb, a, c, h1, h2, h3, h4, h5⟩ => exact ⟨tb, a, c, h1, hC _ h2, h3, h4, hC _ h5⟩
theorem DiskMem.mono {w : World} {m : DM} {L : DL} {C C' : Nat → Prop} (h : DiskMem w m L C) (hC : ∀ k, C k → C' k) : DiskMem w m L C' :=
  { h with
    psv := fun r hr => (h.psv r hr).mono hC
    wsv := fun r hr => ⟨(h.wsv r hr).1, hC _ (h.wsv r hr).2⟩
    markC := fun b hb => hC _ (h.markC b hb)
    tailC := fun b hb => hC _ (h.tailC b hb)
    torn := h.torn.mono hC }
/-- New memory may be led to from now on. -/
theorem DiskL.widen {w w' : World} {sb : Nat} {m : DM} {L : DL} {F C : Nat → Prop} (h : DiskL w sb m L F C) (hc : Chg NoB w w') : DiskL w' sb m L F (fun k => C k ∨ (w.heap.size ≤ k ∧ k < w'.heap.size)) :=
  { h.chg hc (fun _ _ f => f) (fun _ _ f => f) with
    mem := (h.chg hc (fun _ _ f => f) (fun _ _ f => f)).mem.mono (fun _ hk => .inl hk)
    sep := fun k hk => by
      rcases hk with hk | ⟨h1, h2⟩
      · exact ⟨(h.sep k hk).1, Nat.lt_of_lt_of_le (h.sep k hk).2 hc.size⟩
      · exact ⟨fun hf => by have := h.lt k hf; omega, h2⟩ }

/-- The log lies anew. -/
theorem DiskL.relog {w w2 : World} {sb : Nat} {m m' : DM} {L : DL} {F C : Nat → Prop} (h : DiskL w sb m L F C) {la : Option Addr} {lc : Nat} (hc : Chg (fun k => k = sb ∨ blkOf L.la k) w w2)
    (hb : w2.heap[sb]? = some (.cells (dcells m' { L with la := la, lc := lc }) 66 (0, 0))) (hok : m'.Ok)
    (hlog : w2.ownsRow 0 5 1 (.slice la m'.log.length lc) m'.log.length (bcells m'.log)) (loc : ∀ k, blkOf la k → blkOf L.la k ∨ w.heap.size ≤ k)
    (e1 : m'.base = m.base) (e2 : m'.waiting = m.waiting) (e3 : m'.mark = m.mark) (e4 : m'.tail = m.tail) (e5 : m'.torn = m.torn) :
    ∃ F', DiskL w2 sb m' { L with la := la, lc := lc } F' C ∧ ∀ k, F' k → F k ∨ w.heap.size ≤ k := by
  have hsb : ∀ k, blkOf L.la k → ¬ k = sb := fun k hk e => h.s_l (e ▸ hk)
  have hlt : ∀ k, F k → k < w.heap.size := h.lt
  have hC : ∀ k, C k → ¬ (k = sb ∨ blkOf L.la k) := fun k hk e => (h.sep k hk).1 ((h.foot k).2 (e.elim .inl (fun e => .inr (.inr (.inr (.inr e))))))
  have hp : ¬ (L.pb = sb ∨ blkOf L.la L.pb) := fun e => e.elim (fun e => h.s_p e.symm) h.p_l
  have hm : ¬ (L.mb = sb ∨ blkOf L.la L.mb) := fun e => e.elim (fun e => h.s_m e.symm) h.m_l
  have hw : ∀ k, blkOf L.wa k → ¬ (k = sb ∨ blkOf L.la k) := fun k hk e => e.elim (fun e => h.s_w (e ▸ hk)) (h.w_l k hk)
  have hnew : ∀ j, j < w.heap.size → ¬ blkOf L.la j → ¬ blkOf la j := fun j hj hn hk => (loc j hk).elim hn (fun g => by omega)
  have M := h.mem
  refine ⟨footOf sb { L with la := la, lc := lc }, ⟨hb, ?_, hok, fun k => Iff.rfl, ?_, h.s_p, h.s_m, h.s_w, ?_, h.p_m, h.p_w, ?_, h.m_w, ?_, ?_⟩, ?_⟩
  · exact { pages := hc.blk M.pages hp, psl := by rw [e1]; exact M.psl, psv := fun r hr => (M.psv r hr).chg hc hC, wait := by rw [e2]; exact ownsRow_chg M.wait hc (fun b hb => hw _ ⟨b, hb, rfl⟩),
            wsl := by rw [e2]; exact M.wsl, wsv := fun r hr => (M.wsv r hr).chg hc hC, map := M.map.chg hc hm, now := M.now, log := hlog, mark := by rw [e3]; exact M.mark.chg hc (fun b hb => hC _ (M.markC b hb)),
            markC := M.markC, tail := by rw [e4]; exact M.tail.chg hc (fun b hb => hC _ (M.tailC b hb)), tailC := M.tailC, torn := by rw [e5]; exact M.torn.chg hc hC }
  · intro k hk
    have hk' := h.sep k hk
    refine ⟨fun hf => ?_, Nat.lt_of_lt_of_le hk'.2 hc.size⟩
    rcases hf with hf | hf | hf | hf | hf
    · exact hk'.1 ((h.foot k).2 (.inl hf))
    · exact hk'.1 ((h.foot k).2 (.inr (.inl hf)))
    · exact hk'.1 ((h.foot k).2 (.inr (.inr (.inl hf))))
    · exact hk'.1 ((h.foot k).2 (.inr (.inr (.inr (.inl hf)))))
    · exact hnew k hk'.2 (fun e => hC k hk (.inr e)) hf
  · exact hnew _ (heap_lt h.blk) h.s_l
  · exact hnew _ (heap_lt M.pages) h.p_l
  · exact hnew _ M.map.lt h.m_l
  · exact fun k hk => hnew k (blkOf_lt_row M.wait k hk) (h.w_l k hk)
  · intro k hk
    rcases hk with hf | hf | hf | hf | hf
    · exact .inl ((h.foot k).2 (.inl hf))
    · exact .inl ((h.foot k).2 (.inr (.inl hf)))
    · exact .inl ((h.foot k).2 (.inr (.inr (.inl hf))))
    · exact .inl ((h.foot k).2 (.inr (.inr (.inr (.inl hf)))))
    · exact (loc k hf).imp (fun e => (h.foot k).2 (.inr (.inr (.inr (.inr e))))) id

/-- One more write waits. -/
theorem DiskL.rewait {w w2 : World} {sb : Nat} {m m' : DM} {L : DL} {F C : Nat → Prop} (h : DiskL w sb m L F C) {wa : Option Addr} {wc : Nat} {r : WR} {mp : Int → Option Value} (hc : Chg (fun k => k = sb ∨ blkOf L.wa k ∨ k = L.mb) w w2)
    (hb : w2.heap[sb]? = some (.cells (dcells m' { L with wa := wa, wc := wc, ws := L.ws ++ [r], mp := mp }) 66 (0, 0))) (hok : m'.Ok)
    (hrow : w2.ownsRow 0 70 2 (.slice wa m'.waiting.length wc) m'.waiting.length ((L.ws ++ [r]).flatMap WR.cells)) (loc : ∀ k, blkOf wa k → blkOf L.wa k ∨ w.heap.size ≤ k)
    (hw : m'.waiting = m.waiting ++ [(r.page, r.l)]) (hr : r.At w2 C) (hmap : MapAt w2 L.mb (.int .i64) encI mp) (hnow : ∀ n, mp n = if n = (r.page : Int) then some r.v else L.mp n)
    (e1 : m'.base = m.base) (e2 : m'.log = m.log) (e3 : m'.mark = m.mark) (e4 : m'.tail = m.tail) (e5 : m'.torn = m.torn) :
    ∃ F', DiskL w2 sb m' { L with wa := wa, wc := wc, ws := L.ws ++ [r], mp := mp } F' C ∧ ∀ k, F' k → F k ∨ w.heap.size ≤ k := by
  have hC : ∀ k, C k → ¬ (k = sb ∨ blkOf L.wa k ∨ k = L.mb) := fun k hk e => (h.sep k hk).1 ((h.foot k).2 (by
    rcases e with e | e | e
    · exact .inl e
    · exact .inr (.inr (.inr (.inl e)))
    · exact .inr (.inr (.inl e))))
  have hp : ¬ (L.pb = sb ∨ blkOf L.wa L.pb ∨ L.pb = L.mb) := fun e => by
    rcases e with e | e | e
    · exact h.s_p e.symm
    · exact h.p_w e
    · exact h.p_m e
  have hl : ∀ k, blkOf L.la k → ¬ (k = sb ∨ blkOf L.wa k ∨ k = L.mb) := fun k hk e => by
    rcases e with e | e | e
    · exact h.s_l (e ▸ hk)
    · exact h.w_l k e hk
    · exact h.m_l (e ▸ hk)
  have hnew : ∀ j, j < w.heap.size → ¬ blkOf L.wa j → ¬ blkOf wa j := fun j hj hn hk => (loc j hk).elim hn (fun g => by omega)
  have M := h.mem
  refine ⟨footOf sb { L with wa := wa, wc := wc, ws := L.ws ++ [r], mp := mp }, ⟨hb, ?_, hok, fun k => Iff.rfl, ?_, h.s_p, h.s_m, ?_, h.s_l, h.p_m, ?_, h.p_l, ?_, h.m_l, ?_⟩, ?_⟩
  · exact { pages := hc.blk M.pages hp, psl := by rw [e1]; exact M.psl, psv := fun r hr => (M.psv r hr).chg hc hC, wait := hrow,
            wsl := by rw [hw, M.wsl]; simp, wsv := fun r' hr' => by
              rcases List.mem_append.1 hr' with hr' | hr'
              · exact (M.wsv r' hr').chg hc hC
              · simp only [List.mem_singleton] at hr'; subst hr'; exact hr
            map := hmap, now := fun n => by
              show mp n = nowOf (L.ws ++ [r]) n
              rw [hnow n, M.now n]
              unfold nowOf
              by_cases h0 : 0 ≤ n
              · rw [if_pos h0, if_pos h0]
                simp only [List.map_append, List.map_cons, List.map_nil, lastOf_snoc]
                by_cases hn : n = (r.page : Int)
                · rw [if_pos hn, if_pos (by omega)]; rfl
                · rw [if_neg hn, if_neg (by omega)]
              · rw [if_neg h0, if_neg h0, if_neg (by omega)]
            log := by rw [e2]; exact ownsRow_chg M.log hc (fun b hb => hl _ ⟨b, hb, rfl⟩), mark := by rw [e3]; exact M.mark.chg hc (fun b hb => hC _ (M.markC b hb)),
            markC := M.markC, tail := by rw [e4]; exact M.tail.chg hc (fun b hb => hC _ (M.tailC b hb)), tailC := M.tailC, torn := by rw [e5]; exact M.torn.chg hc hC }
  · intro k hk
    have hk' := h.sep k hk
    refine ⟨fun hf => ?_, Nat.lt_of_lt_of_le hk'.2 hc.size⟩
    rcases hf with hf | hf | hf | hf | hf
    · exact hk'.1 ((h.foot k).2 (.inl hf))
    · exact hk'.1 ((h.foot k).2 (.inr (.inl hf)))
    · exact hk'.1 ((h.foot k).2 (.inr (.inr (.inl hf))))
    · exact hnew k hk'.2 (fun e => hC k hk (.inr (.inl e))) hf
    · exact hk'.1 ((h.foot k).2 (.inr (.inr (.inr (.inr hf)))))
  · exact hnew _ (heap_lt h.blk) h.s_w
  · exact hnew _ (heap_lt M.pages) h.p_w
  · exact hnew _ M.map.lt h.m_w
  · exact fun k hk hk' => hnew k (blkOf_lt_row M.log k hk') (fun e => h.w_l k e hk') hk
  · intro k hk
    rcases hk with hf | hf | hf | hf | hf
    · exact .inl ((h.foot k).2 (.inl hf))
    · exact .inl ((h.foot k).2 (.inr (.inl hf)))
    · exact .inl ((h.foot k).2 (.inr (.inr (.inl hf))))
    · exact (loc k hf).imp (fun e => (h.foot k).2 (.inr (.inr (.inr (.inl e))))) id
    · exact .inl ((h.foot k).2 (.inr (.inr (.inr (.inr hf)))))

/-- A cell of the struct. -/
theorem DiskL.cell {w : World} {sb : Nat} {m : DM} {L : DL} {F C : Nat → Prop} (h : DiskL w sb m L F C) (i : Nat) {v : Value} (hv : (dcells m L)[i]? = some v) : w.cell? ⟨sb, i, none⟩ = some v := by
  rw [cell_of_row w sb i _ _ _ h.blk]; exact hv
theorem DiskL.free {w : World} {sb : Nat} {m : DM} {L : DL} {F C : Nat → Prop} (h : DiskL w sb m L F C) (i : Nat) : w.frozen? ⟨sb, i, none⟩ = false := by
  simp [World.frozen?, h.blk]
end Go.Proofs.Ythgejjlhfdegeaa
