/- hold. -/
import Derived.Test.YtjnbbmchmkiodaaLkB
import Derived.WalkSpells
namespace Go.Proofs.Ytjnbbmchmkiodaa
open Go.RowKit Go.MapKept

/-- An owner holds a mode of a name. -/
def TM.hold (m : TM) (s : ByteArray) (p : PlM) (o md : Int) : TM :=
  { m with pl := fun x => if x = s then some { p with held := fun i => if i = o then some md else p.held i } else m.pl x, names := fun i => if i = o then some (fun x => decide (x = s) || ((m.names o).getD (fun _ => false)) x) else m.names i }
theorem TM.hold_some (m : TM) (s : ByteArray) (p : PlM) (o md : Int) {f : ByteArray → Bool} (hf : m.names o = some f) : m.hold s p o md = (m.setHeld s p o md).addName o f s := by
  simp [TM.hold, TM.setHeld, TM.addName, hf]
theorem TM.hold_none (m : TM) (s : ByteArray) (p : PlM) (o md : Int) (hf : m.names o = none) : m.hold s p o md = ((m.setHeld s p o md).newName o).addName o (fun _ => false) s := by
  simp only [TM.hold, TM.setHeld, TM.addName, TM.newName, hf, Option.getD_none, TM.mk.injEq, true_and]
  funext i
  by_cases hi : i = o <;> simp [hi]

theorem TL.newName_nm (L : TL) (o : Int) (n : Nat) : (L.newName o n).nm o = n := by simp [TL.newName]
def HoldR2 (w : World) (tb : Nat) (m : TM) (L : TL) (ρ : Nat → Role) (V : Value) (e : Ending) (w' : World) : Prop := e = .returned V ∧ ∃ L' ρ', Tab w' tb m L' ρ' ∧ TOwn w ρ w' ρ' ∧ L'.pl = L.pl
def HoldR (w : World) (tb : Nat) (m : TM) (ρ : Nat → Role) (V : Value) (e : Ending) (w' : World) : Prop := e = .returned V ∧ ∃ L' ρ', Tab w' tb m L' ρ' ∧ TOwn w ρ w' ρ'

theorem run_equalIn_map_nil' {P : Program} (w : World) (d : Nat) (t k e : TypeId) (p : Option Nat) (h : P.underlying t = some (.map k e)) : (Op.equalIn (d + 1) t (.map p) (.map none)).run P w = .ok p.isNone w := by
  cases p <;> simp [Op.equalIn, run_underlying h]
theorem run_eql_map_nil' {P : Program} (w : World) (t k e : TypeId) (p : Option Nat) (h : P.underlying t = some (.map k e)) : (binOp .eql t (.map p) (.map none)).run P w = .ok (.bool p.isNone) w := by
  simp only [binOp]
  simp [show Op.equal t (.map p) (.map none) = Op.equalIn (9999 + 1) t (.map p) (.map none) from rfl, run_equalIn_map_nil' w 9999 t k e p h]
theorem zeroMap (w : World) : (zeroValue 80).run Try.prog w = .ok (.map none) w := by kernel_rfl
theorem zeroInt (w : World) : (zeroValue 3).run Try.prog w = .ok (.int .i64 0) w := by kernel_rfl
theorem zeroPl (w : World) : (zeroValue 67).run Try.prog w = .ok (.pointer none) w := by kernel_rfl
theorem zeroGr (w : World) : (zeroValue 33).run Try.prog w = .ok (.agg #[.string ⟨#[]⟩, .int .i64 0]) w := by kernel_rfl

set_option maxHeartbeats 1000000 in
set_option maxRecDepth 100000 in
theorem hold_calls2 {w : World} {tb : Nat} {m : TM} {L : TL} {ρ : Nat → Role} (h : Tab w tb m L ρ) (s : ByteArray) (p : PlM) (hp : m.pl s = some p) (o md : Int) :
    Calls Try.prog 30 #[.pointer (some ⟨tb, 0, none⟩), .pointer (some ⟨(L.pl s).pb, 0, none⟩), .int .u64 o, .string s, .int .i64 md] w (HoldR2 w tb (m.hold s p o md) L ρ (.tuple #[])) := by
  obtain ⟨g1, g2, g3, g4⟩ := h.pl s p hp
  have c0 : w.cell? ⟨(L.pl s).pb, 0, none⟩ = some (.map (some (L.pl s).hb)) := by rw [cell_of_row w _ _ _ _ _ g1.blk]; rfl
  have hM := g1.held
  have hmm := @run_makeMap Try.prog
  have heq := fun (u : World) (x : Option Nat) => run_eql_map_nil' (P := Try.prog) u 80 9 86 x Try.underlying80
  have HH := hide h
  have HG3 := hide g3
  clear h g1 g2 g3 g4
  go_enter Try.func30, Try.ntmps30
  go_wp2_with (at_mapUpdate; refine wpList_put rfl (.tmp 13) (.tmp 14) (.tmp 15) 68 rfl 29 3 Try.underlying68 Try.underlying29 encU_inj encU_key (L.pl s).hb rfl hM o rfl (.int .i64 md) rfl (Hid.out ?_))
  refine hide (fun w1 hM1 hc1 => ?_)
  try go_frame
  have h1 := HH.out.setHeld hp hc1 hM1
  have ho1 : TOwn w ρ w1 ρ := ⟨hc1.mono (fun k hk => by have : k = (L.pl s).hb := hk; rw [this, HG3.out]; simp), fun _ h => .inl h⟩
  have d2 : w1.cell? ⟨tb, 2, none⟩ = some (.map (some L.tn)) := by rw [cell_of_row w1 _ _ _ _ _ h1.blk]; rfl
  have hN1 := h1.mn
  clear c0 hM hM1 hc1
  have H1 := hide h1; clear h1
  cases hf : m.names o with
  | some f =>
    have hl : (namesF (m.setHeld s p o md) L o).getD (.map none) = .map (some (L.nm o)) := by simp [namesF, TM.setHeld, hf]
    have hI := (H1.out.nm o f hf).1
    have HF := hide hf; have HL := hide hl; have HI := hide hI; clear hf hl hI
    go_wp2_with (first | (at_lookup; refine wpList_look1 rfl (.tmp 19) (.tmp 20) 64 rfl 29 80 (.map none) Try.underlying64 Try.underlying29 encU_key zeroMap L.tn rfl hN1 o rfl _ HL.out ?_) | (at_lookup; refine wpList_look1 rfl (.tmp 32) (.tmp 33) 64 rfl 29 80 (.map none) Try.underlying64 Try.underlying29 encU_key zeroMap L.tn rfl hN1 o rfl _ HL.out ?_) | (at_mapUpdate; refine wpList_put rfl (.tmp 34) (.tmp 35) (.tmp 36) 80 rfl 9 86 Try.underlying80 Try.underlying9 encS_inj encS_key (L.nm o) rfl HI.out s rfl (.agg #[]) rfl (Hid.out ?_)))
    refine hide (fun w2 hM2 hc2 => ?_)
    try go_frame
    have h2 := H1.out.addName HF.out hc2 hM2
    have ho2 : TOwn w1 ρ w2 ρ := ⟨hc2.mono (fun k hk => by have : k = L.nm o := hk; rw [this, (H1.out.nm o f HF.out).2]; simp), fun _ h => .inl h⟩
    have H2 := hide h2
    clear hc2 hM2 h2
    go_wp2_with fail
    go_end0
    rw [TM.hold_some m s p o md HF.out]
    exact ⟨rfl, L, ρ, H2.out, ho1.trans ho2, rfl⟩
  | none =>
    have hl : (namesF (m.setHeld s p o md) L o).getD (.map none) = .map none := by simp [namesF, TM.setHeld, hf]
    have HF := hide hf; have HL := hide hl; clear hf hl
    have hca := Chg.alloc NoB w1 (.map #[] 0)
    have hN1a := hN1.chg hca (fun f => f)
    go_wp2_with (first | (at_lookup; refine wpList_look1 rfl (.tmp 19) (.tmp 20) 64 rfl 29 80 (.map none) Try.underlying64 Try.underlying29 encU_key zeroMap L.tn rfl hN1 o rfl _ HL.out ?_) | (at_mapUpdate; refine wpList_put rfl (.tmp 26) (.tmp 27) (.tmp 28) 64 rfl 29 80 Try.underlying64 Try.underlying29 encU_inj encU_key L.tn rfl hN1a o rfl (.map (some w1.heap.size)) rfl (Hid.out ?_)))
    refine hide (fun w2 hM2 hc2 => ?_)
    try go_frame
    have h1a := H1.out.chg0 hca
    have hlt : w1.heap.size < w2.heap.size := Nat.lt_of_lt_of_le (by simp) hc2.size
    have hne : w1.heap.size ≠ L.tn := fun e => by have := H1.out.lt L.tn (by rw [H1.out.rn]; simp); omega
    have hnew : MapAt w2 w1.heap.size .string encS (fun _ => none) := (MapAt.made w1 .string encS).chg hc2 hne
    have h2 : Tab w2 tb ((m.setHeld s p o md).newName o) (L.newName o w1.heap.size) (roleAt ρ w1.heap.size (.inner o)) :=
      Tab.newName H1.out HF.out (Nat.le_refl _) hlt ((Chg.alloc _ w1 (.map #[] 0)).trans hc2) hnew hM2
    have hn2 := h2.mn
    have hi2 := (h2.nm o (fun _ => false) (by simp [TM.newName])).1
    have hl2 : (namesF ((m.setHeld s p o md).newName o) (L.newName o w1.heap.size) o).getD (.map none) = .map (some w1.heap.size) := by simp [namesF, TM.newName, TL.newName]
    have ho2 : TOwn w1 ρ w2 (roleAt ρ w1.heap.size (.inner o)) := ⟨((Chg.alloc _ w1 (.map #[] 0)).trans hc2).mono (fun k hk => by have : k = L.tn := hk; rw [this, H1.out.rn]; simp), fun k hk => by
      unfold roleAt at hk
      split at hk
      · right; omega
      · exact .inl hk⟩
    have d3 : w2.cell? ⟨tb, 2, none⟩ = some (.map (some L.tn)) := by rw [cell_of_row w2 _ _ _ _ _ h2.blk]; rfl
    have H2 := hide h2; have HL2 := hide hl2; have HI2 := hide hi2
    clear h2 hl2 hi2 hnew hne hlt h1a hc2 hM2 hN1a hca hN1 d2 HL
    go_wp2_with (first | (at_lookup; refine wpList_look1 rfl (.tmp 32) (.tmp 33) 64 rfl 29 80 (.map none) Try.underlying64 Try.underlying29 encU_key zeroMap L.tn rfl hn2 o rfl _ HL2.out ?_) | (at_mapUpdate; refine wpList_put rfl (.tmp 34) (.tmp 35) (.tmp 36) 80 rfl 9 86 Try.underlying80 Try.underlying9 encS_inj encS_key w1.heap.size rfl (TL.newName_nm L o w1.heap.size ▸ HI2.out) s rfl (.agg #[]) rfl (Hid.out ?_)))
    refine hide (fun w3 hM3 hc3 => ?_)
    try go_frame
    have h3 := H2.out.addName (f := fun _ => false) (s := s) (o := o) (by simp [TM.newName]) (by simpa [TL.newName] using hc3) (by simpa [TL.newName] using hM3)
    have ho3 : TOwn w2 (roleAt ρ w1.heap.size (.inner o)) w3 (roleAt ρ w1.heap.size (.inner o)) := ⟨hc3.mono (fun k hk => by have : k = w1.heap.size := hk; rw [this]; simp [roleAt]), fun _ h => .inl h⟩
    have H3 := hide h3
    clear hc3 hM3 h3
    go_wp2_with fail
    go_end0
    rw [TM.hold_none m s p o md HF.out]
    exact ⟨rfl, _, _, H3.out, (ho1.trans ho2).trans ho3, rfl⟩
theorem hold_calls {w : World} {tb : Nat} {m : TM} {L : TL} {ρ : Nat → Role} (h : Tab w tb m L ρ) (s : ByteArray) (p : PlM) (hp : m.pl s = some p) (o md : Int) :
    Calls Try.prog 30 #[.pointer (some ⟨tb, 0, none⟩), .pointer (some ⟨(L.pl s).pb, 0, none⟩), .int .u64 o, .string s, .int .i64 md] w (HoldR w tb (m.hold s p o md) ρ (.tuple #[])) :=
  (hold_calls2 h s p hp o md).mono fun _ _ ⟨a, L', ρ', b, c, _⟩ => ⟨a, L', ρ', b, c⟩
end Go.Proofs.Ytjnbbmchmkiodaa
