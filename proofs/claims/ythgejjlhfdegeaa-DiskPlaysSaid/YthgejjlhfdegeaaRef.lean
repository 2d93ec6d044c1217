/- How the reference's device lies in memory; its small functions. -/
import Derived.Test.YthgejjlhfdegeaaDiskJ
import Derived.Test.YthgejjlhfdegeaaAsk
namespace Go.Proofs.Ythgejjlhfdegeaa
open Go.RowKit Go.MapKept

/-- A row of cells that reads as vs. -/
structure CR (w : World) (a : Option Addr) (n c sz : Nat) (vs : List Value) : Prop where
  len : vs.length = n * sz
  cap : n ≤ c
  nil : a = none → c = 0
  cell : ∀ b, a = some b → ∀ j u, vs[j]? = some u → w.cell? (b.add j) = some u
theorem CR.chg {F : Nat → Prop} {w w' : World} {a : Option Addr} {n c sz : Nat} {vs : List Value} (h : CR w a n c sz vs) (hc : Chg F w w') (hn : ∀ b, a = some b → ¬ F b.block) : CR w' a n c sz vs :=
  ⟨h.len, h.cap, h.nil, fun b hb j u hu => by
    have hc1 := h.cell b hb j u hu
    rw [hc.cell (cell_some hc1).1 (by rw [add_block]; exact hn b hb)]
    exact hc1⟩
theorem CR.chgw {F : Nat → Prop} {w w' : World} {a : Option Addr} {n c sz : Nat} {vs : List Value} (h : CR w a n c sz vs) (hc : Chg F w w') (hn : ∀ b, a = some b → 0 < n → ¬ F b.block) : CR w' a n c sz vs :=
  ⟨h.len, h.cap, h.nil, fun b hb j u hu => by
    have hc1 := h.cell b hb j u hu
    have hp : 0 < n := by
      rcases Nat.eq_zero_or_pos n with h0 | h0
      · have hl := h.len
        rw [h0, Nat.zero_mul] at hl
        rw [List.getElem?_eq_none (by omega)] at hu; cases hu
      · exact h0
    rw [hc.cell (cell_some hc1).1 (by rw [add_block]; exact hn b hb hp)]
    exact hc1⟩
theorem CR.own {w : World} {base : Nat} {e : TypeId} {sz : Nat} {a : Option Addr} {n c : Nat} {vs : List Value} (h : w.ownsRow base e sz (.slice a n c) n vs) : CR w a n c sz vs := by
  refine ⟨h.1, ?_, ?_, ?_⟩
  · rcases h.2 with ⟨hv, h0⟩ | ⟨g, cap, cur, hv, _, _, h1, _⟩
    · omega
    · simp only [Value.slice.injEq] at hv; omega
  · rintro rfl
    rcases h.2 with ⟨hv, h0⟩ | ⟨g, cap, cur, hv, _⟩
    · simp only [Value.slice.injEq] at hv; exact hv.2.2
    · simp at hv
  · rintro b rfl j u hu
    rcases h.2 with ⟨hv, _⟩ | ⟨g, cap, cur, hv, _⟩
    · simp at hv
    · simp only [Value.slice.injEq, Option.some.injEq] at hv
      obtain ⟨rfl, _, _⟩ := hv
      exact h.cells (g := g) rfl j u hu
theorem CR.nil' (w : World) (sz : Nat) : CR w none 0 0 sz [] := ⟨by simp, Nat.le_refl _, fun _ => rfl, fun _ h => by cases h⟩
theorem CR.form {w : World} {a : Option Addr} {n c sz : Nat} {vs : List Value} (h : CR w a n c sz vs) (hn : 0 < n) (hs : 0 < sz) : ∃ g o, a = some ⟨g, o, none⟩ ∧ ∀ j u, vs[j]? = some u → w.cell? ⟨g, o + j, none⟩ = some u := by
  cases a with
  | none => have := h.nil rfl; have := h.cap; omega
  | some b =>
    have hl : 0 < vs.length := by rw [h.len]; exact Nat.mul_pos hn hs
    have h0 := h.cell b rfl 0 _ (List.getElem?_eq_getElem hl)
    have hsp := (cell_some h0).2
    obtain ⟨g, o, sp⟩ := b
    have : sp = none := by simpa [Addr.add] using hsp
    subst this
    refine ⟨g, o, rfl, fun j u hu => ?_⟩
    have := h.cell _ rfl j u hu
    have e1 : (⟨g, o, none⟩ : Addr).add j = ⟨g, o + j, none⟩ := by unfold Addr.add; split <;> simp_all
    rw [e1] at this; exact this

/-- A value that is a slice of bytes, in blocks of G. -/
def SV (w : World) (G : Nat → Prop) (v : Value) (l : List UInt8) : Prop := ∃ a c, v = .slice a l.length c ∧ BS w a l.length c l ∧ ∀ b, a = some b → G b.block
theorem SV.chg {F G : Nat → Prop} {w w' : World} {v : Value} {l : List UInt8} (h : SV w G v l) (hc : Chg F w w') (hG : ∀ k, G k → ¬ F k) : SV w' G v l := by
  obtain ⟨a, c, h1, h2, h3⟩ := h
  exact ⟨a, c, h1, h2.chg hc (fun b hb => hG _ (h3 b hb)), h3⟩
theorem SV.mono {G G' : Nat → Prop} {w : World} {v : Value} {l : List UInt8} (h : SV w G v l) (hG : ∀ k, G k → G' k) : SV w G' v l := by
  obtain ⟨a, c, h1, h2, h3⟩ := h
  exact ⟨a, c, h1, h2, fun b hb => hG _ (h3 b hb)⟩

structure RL where
  ba : Option Addr
  bc : Nat
  pv : List Value
  wa : Option Addr
  wc : Nat
  wv : List Value
  la : Option Addr
  lc : Nat
  ma : Option Addr
  mc : Nat
  lp : Int
  ka : Option Addr
  kn : Nat
  kc : Nat
  ta : Option Addr
  tc : Nat

def wcells (ws : List (Nat × List UInt8)) (vs : List Value) : List Value := (ws.zip vs).flatMap fun x => [.int .i64 x.1.1, x.2]

def rcells (m : DM) (L : RL) : Array Value :=
  #[.slice L.ba m.base.length L.bc, .slice L.wa m.waiting.length L.wc, .int .i64 m.room, .slice L.la m.log.length L.lc, .int .i64 m.certain, .slice L.ma m.mark.length L.mc,
    .int .i64 m.fuse, .int .i64 m.ops, .bool m.dead, .int .i64 L.lp, .slice L.ka L.kn L.kc, .slice L.ta m.tail.length L.tc, .bool m.torn.isSome]

structure RefAt (w : World) (G : Nat → Prop) (m : DM) (L : RL) : Prop where
  base : CR w L.ba m.base.length L.bc 1 L.pv
  page : ∀ (i : Nat) p, m.base[i]? = some p → ∃ v, L.pv[i]? = some v ∧ SV w G v p
  baG : ∀ b, L.ba = some b → G b.block
  wait : CR w L.wa m.waiting.length L.wc 2 (wcells m.waiting L.wv)
  wsv : ∀ (i : Nat) r, m.waiting[i]? = some r → ∃ v, L.wv[i]? = some v ∧ SV w G v r.2
  wvl : L.wv.length = m.waiting.length
  waG : ∀ b, L.wa = some b → 0 < m.waiting.length → G b.block
  log : BS w L.la m.log.length L.lc m.log
  logG : ∀ b, L.la = some b → 0 < m.log.length → G b.block
  mark : BS w L.ma m.mark.length L.mc m.mark
  markG : ∀ b, L.ma = some b → 0 < m.mark.length → G b.block
  tail : BS w L.ta m.tail.length L.tc m.tail
  tailG : ∀ b, L.ta = some b → 0 < m.tail.length → G b.block
  torn : ∀ p b, m.torn = some (p, b) → L.lp = (p : Int) ∧ SV w G (.slice L.ka L.kn L.kc) b

section
variable {w w' : World} {G : Nat → Prop} {m : DM} {L : RL}
theorem RefAt.chg {F : Nat → Prop} (h : RefAt w G m L) (hc : Chg F w w') (hG : ∀ k, G k → ¬ F k) : RefAt w' G m L where
  base := h.base.chg hc fun b hb => hG _ (h.baG b hb)
  page i p hp := by obtain ⟨v, h1, h2⟩ := h.page i p hp; exact ⟨v, h1, h2.chg hc hG⟩
  baG := h.baG
  wait := h.wait.chgw hc fun b hb hp => hG _ (h.waG b hb hp)
  wsv i r hr := by obtain ⟨v, h1, h2⟩ := h.wsv i r hr; exact ⟨v, h1, h2.chg hc hG⟩
  wvl := h.wvl
  waG := h.waG
  log := h.log.chgw hc fun b hb hp => hG _ (h.logG b hb hp)
  logG := h.logG
  mark := h.mark.chgw hc fun b hb hp => hG _ (h.markG b hb hp)
  markG := h.markG
  tail := h.tail.chgw hc fun b hb hp => hG _ (h.tailG b hb hp)
  tailG := h.tailG
  torn p b hb := ⟨(h.torn p b hb).1, (h.torn p b hb).2.chg hc hG⟩
theorem RefAt.chg0 (h : RefAt w G m L) (hc : Chg NoB w w') : RefAt w' G m L := h.chg hc fun _ _ f => f
theorem RefAt.mono {G' : Nat → Prop} (h : RefAt w G m L) (hG : ∀ k, G k → G' k) : RefAt w G' m L :=
  { h with
    page := fun i p hp => by obtain ⟨v, h1, h2⟩ := h.page i p hp; exact ⟨v, h1, h2.mono hG⟩
    baG := fun b hb => hG _ (h.baG b hb)
    wsv := fun i r hr => by obtain ⟨v, h1, h2⟩ := h.wsv i r hr; exact ⟨v, h1, h2.mono hG⟩
    waG := fun b hb hp => hG _ (h.waG b hb hp)
    logG := fun b hb hp => hG _ (h.logG b hb hp)
    markG := fun b hb hp => hG _ (h.markG b hb hp)
    tailG := fun b hb hp => hG _ (h.tailG b hb hp)
    torn := fun p b hb => ⟨(h.torn p b hb).1, (h.torn p b hb).2.mono hG⟩ }
end

/-- What is led to is there. -/
theorem RefAt.held {w : World} {G : Nat → Prop} {m : DM} {L : RL} (h : RefAt w G m L) (hok : m.Ok) : RefAt w (fun k => G k ∧ k < w.heap.size) m L := by
  have hsv : ∀ {v : Value} {l : List UInt8}, l.length = 512 → SV w G v l → SV w (fun k => G k ∧ k < w.heap.size) v l := by
    rintro v l hl ⟨a, c, h1, h2, h3⟩
    exact ⟨a, c, h1, h2, fun b hb => ⟨h3 b hb, h2.lt (by omega) b hb⟩⟩
  have hcr : ∀ {a : Option Addr} {n c sz : Nat} {vs : List Value}, CR w a n c sz vs → 0 < n → 0 < sz → ∀ b, a = some b → b.block < w.heap.size := by
    intro a n c sz vs hc hn hs b hb
    obtain ⟨g, o, e, hcell⟩ := hc.form hn hs
    rw [e] at hb; cases hb
    have hl : 0 < vs.length := by rw [hc.len]; exact Nat.mul_pos hn hs
    exact (cell_some (hcell 0 _ (List.getElem?_eq_getElem hl))).1
  exact { h with
    page := fun i p hp => by obtain ⟨v, h1, h2⟩ := h.page i p hp; exact ⟨v, h1, hsv (hok.page p (List.mem_of_getElem? hp)) h2⟩
    baG := fun b hb => ⟨h.baG b hb, hcr h.base hok.pages.1 (by omega) b hb⟩
    wsv := fun i r hr => by obtain ⟨v, h1, h2⟩ := h.wsv i r hr; exact ⟨v, h1, hsv (hok.wait r (List.mem_of_getElem? hr)).2 h2⟩
    waG := fun b hb hp => ⟨h.waG b hb hp, hcr h.wait hp (by omega) b hb⟩
    logG := fun b hb hp => ⟨h.logG b hb hp, h.log.lt hp b hb⟩
    markG := fun b hb hp => ⟨h.markG b hb hp, h.mark.lt hp b hb⟩
    tailG := fun b hb hp => ⟨h.tailG b hb hp, h.tail.lt hp b hb⟩
    torn := fun p b hb => ⟨(h.torn p b hb).1, hsv (hok.torn p b hb).2 (h.torn p b hb).2⟩ }

/-- A copy: new memory. -/
def CopRes (w : World) (l : List UInt8) (e : Ending) (w' : World) : Prop :=
  ∃ a c, e = .returned (.slice a l.length c) ∧ w'.ownsRow 0 5 1 (.slice a l.length c) l.length (bcells l) ∧ Chg NoB w w' ∧ ∀ b, a = some b → w.heap.size ≤ b.block
theorem CopRes.sv {w w' : World} {l : List UInt8} {a : Option Addr} {c : Nat} (h : w'.ownsRow 0 5 1 (.slice a l.length c) l.length (bcells l)) (hb : ∀ b, a = some b → w.heap.size ≤ b.block) : SV w' (fun k => w.heap.size ≤ k) (.slice a l.length c) l := ⟨a, c, rfl, BS.own h, hb⟩

theorem copied_calls (a : Option Addr) (n c : Nat) (l : List UInt8) (w : World) (h : BS w a n c l) (hn : n ≤ 140737488355328) : Calls Try.prog 42 #[.slice a n c] w (CopRes w l) := by
  obtain ⟨iu, hu, hu0, hu1, hu2⟩ := info_parts infoU8
  obtain rfl := h.len
  have HNIL : Hid (a = none → l.length = 0 ∧ c = 0) := fun e => ⟨by have := h.nil e; have := h.cap; omega, h.nil e⟩
  have HB := hide h; clear h
  have HL := hide (bcells_length l)
  go_enter Try.func42, Try.ntmps42
  go_wp2_with (first | (at_builtin; refine wpList_app_own rfl (.tmp 4) (.tmp 5) 28 rfl 5 iu (.int .u8 0) 1 1 Try.underlying28 hu hu0 hu1 hu2 rfl (by decide) none 0 0 [] rfl (World.ownsRow_nil w 0 5 1) a l.length c (bcells l) rfl HNIL.out (by rw [HL.out, Nat.mul_one]) HB.out.cell (bcells_one l) (by unfold maxLen; omega) (by omega) (Hid.out ?_)))
  refine hide (fun a3 c3 w3 hr3 hc3 hat3 => ?_)
  try go_frame
  go_wp2_with fail
  go_ret
  exact ⟨a3, c3, rfl, hr3, hc3.mono (fun i h => by cases h), hat3⟩

theorem atR_calls (a : Option Addr) (n c : Nat) (l : List UInt8) (i : Nat) (w : World) (h : BS w a n c l) : Calls Try.prog 46 #[.slice a n c, .int .i64 i] w fun e w' => e = .returned (.int .i64 (chAt l i)) ∧ w = w' := by
  by_cases hi : i < n
  · obtain ⟨g, o, rfl, hc⟩ := h.form (by omega)
    have c0 := hc i hi
    have hlt := chAt_lt l i
    have hx : (l.getD i 0).toNat = chAt l i := rfl
    rw [hx] at c0
    generalize chAt l i = x at c0 hlt ⊢
    clear hx hc h
    have hi' : (i : Int) < (n : Int) := by omega
    go_enter Try.func46, Try.ntmps46
    go_wp2_with fail
    go_ret
    exact ⟨rfl, rfl⟩
  · have e : chAt l i = 0 := by
      have := h.len
      unfold chAt
      rw [List.getD_eq_getElem?_getD, List.getElem?_eq_none (by omega)]; rfl
    rw [e]
    have hi' : ¬ (i : Int) < (n : Int) := by omega
    clear e h
    go_enter Try.func46, Try.ntmps46
    go_wp2_with fail
    go_ret
    exact ⟨rfl, rfl⟩

theorem zero_calls (a : Option Addr) (c : Nat) (w : World) (want : Int) : Calls Try.prog 45 #[.slice a 0 c, .int .i64 want, .int .i64 want] w fun e w' => e = .returned (.bool true) ∧ w = w' := by
  go_enter Try.func45, Try.ntmps45
  go_wp2_with fail
  go_ret
  exact ⟨by simp, rfl⟩

theorem ret_eq {P : Program} {fn : Func} {a : Act} {w : World} {V : Value} {Q : World → Prop} (hr : (results fn a.tmps).run P w = .ok V w) (hd : a.defers = []) (hQ : Q w) : bodyPost P fn (fun e w' => e = .returned V ∧ Q w') .ret a w := ⟨hd, V, hr, rfl, hQ⟩

theorem spend_calls (m : DM) (L : RL) (w : World) (hf : m.fuse ≤ 9223372036854775807 ∧ -1 ≤ m.fuse) : Calls Try.prog 41 #[.agg (rcells m L)] w fun e w' => e = .returned (.tuple #[.agg (rcells m.count.1 L), .bool m.count.2]) ∧ Chg NoB w w' := by
  unfold rcells
  by_cases h0 : m.fuse = 0
  · have e : m.count = ({ m with dead := true }, false) := by simp [DM.count, h0]
    rw [e, h0]
    generalize m.waiting.length = n1; generalize m.base.length = n2; generalize m.log.length = n3; generalize m.mark.length = n4; generalize m.tail.length = n5; generalize m.torn.isSome = n6
    clear e h0
    go_enter Try.func41, Try.ntmps41
    go_wp2_with fail
    exact ret_eq (by simp [results, Try.results41, go_sem]) rfl ((Chg.alloc _ _ _).trans (Chg.alloc _ _ _))
  · have e : m.count = ({ m with fuse := if 0 < m.fuse then m.fuse - 1 else m.fuse, ops := wrap64 (m.ops + 1) }, true) := by simp [DM.count, h0]
    rw [e]
    generalize m.waiting.length = n1; generalize m.base.length = n2; generalize m.log.length = n3; generalize m.mark.length = n4; generalize m.tail.length = n5; generalize m.torn.isSome = n6
    generalize m.fuse = f at h0 hf ⊢
    generalize m.ops = o
    obtain ⟨hf1, hf2⟩ := hf
    have e0 : (f == 0) = false := beq_eq_false_iff_ne.2 h0
    clear e h0
    by_cases hp : 0 < f
    · simp only [hp, if_true]
      go_enter Try.func41, Try.ntmps41
      go_wp2_with fail
      exact ret_eq (by simp [results, Try.results41, go_sem]) rfl ((Chg.alloc _ _ _).trans (Chg.alloc _ _ _))
    · simp only [hp, if_false]
      go_enter Try.func41, Try.ntmps41
      go_wp2_with fail
      exact ret_eq (by simp [results, Try.results41, go_sem]) rfl ((Chg.alloc _ _ _).trans (Chg.alloc _ _ _))
end Go.Proofs.Ythgejjlhfdegeaa
