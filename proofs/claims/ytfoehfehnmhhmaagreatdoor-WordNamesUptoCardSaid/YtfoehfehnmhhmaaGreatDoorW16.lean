/-
  The walks of inner, double, plain: what stands behind a contract for run. Condition: lengths.
-/
import Derived.Test.YtfoehfehnmhhmaaGreatDoorW15
namespace Go.Proofs.YtfoehfehnmhhmaaGreatDoor
open Go.RowKit Go.Shelf Go.Maps

/-- What run, double, dollar, braced are known to do. -/
def RunC (f : Nat) : Prop := ∀ (w : World) (b : Nat) (vv av v : Value) (x y : Wd.Ex) (s : Wd.Bytes) (inq : Bool), ExAt w b vv av x v → Glo w → 8 ≤ b → s.length < 1073741824 → Wd.run f x s inq = some y →
  Calls Tryz.prog 21 #[.pointer (some ⟨b, 0, none⟩), .string ⟨s.toArray⟩, .bool inq] w fun e w' => e = .returned (.tuple #[]) ∧ ∃ v', ExIs w w' b vv av y v v'
def DoubleC (f : Nat) : Prop := ∀ (w : World) (b : Nat) (vv av v : Value) (x y : Wd.Ex) (s : Wd.Bytes), ExAt w b vv av x v → Glo w → 8 ≤ b → x.l.length ≤ 1073741824 → s.length < 1073741824 → Wd.double f x s = some y →
  Calls Tryz.prog 37 #[.pointer (some ⟨b, 0, none⟩), .string ⟨s.toArray⟩] w fun e w' => e = .returned (.tuple #[]) ∧ ∃ v', ExIs w w' b vv av y v v'
def DollarC (f : Nat) : Prop := ∀ (w : World) (b : Nat) (vv av v : Value) (x y : Wd.Ex) (s p : Wd.Bytes) (inq : Bool) (m : Nat), ExAt w b vv av x v → Glo w → 8 ≤ b → x.l.length ≤ 1073741824 → s.length < 1073741824 → p.length < 1073741824 → s ≠ [] → Wd.dollar f x s p inq = some (y, m) →
  Calls Tryz.prog 38 #[.pointer (some ⟨b, 0, none⟩), .string ⟨s.toArray⟩, .string ⟨p.toArray⟩, .bool inq] w fun e w' => e = .returned (.int .i64 m) ∧ ∃ v', ExIs w w' b vv av y v v'
def BracedC (f : Nat) : Prop := ∀ (w : World) (b : Nat) (vv av v : Value) (x y : Wd.Ex) (s : Wd.Bytes) (inq : Bool), ExAt w b vv av x v → Glo w → 8 ≤ b → x.l.length ≤ 1073741824 → s.length < 1073741824 → Wd.braced f x s inq = some y →
  Calls Tryz.prog 59 #[.pointer (some ⟨b, 0, none⟩), .string ⟨s.toArray⟩, .bool inq] w fun e w' => e = .returned (.tuple #[]) ∧ ∃ v', ExIs w w' b vv av y v v'

theorem StrsAt.below {w w' : World} {B : Nat} {v : Value} {l : List Wd.Bytes} (h : StrsAt w B v l) (hb : Below w.heap.size w w') : StrsAt w' B v l := by
  refine ⟨h.len, h.each, ?_⟩
  rcases h.cells with h1 | ⟨k, o, c, hv, hc, hB, hcell⟩
  · exact .inl h1
  · refine .inr ⟨k, o, c, hv, hc, hB, fun i hi => ?_⟩
    rw [← hcell i hi]
    exact World.cell?_of_block (hb.block k (World.block_lt_of_cell? _ _ (hcell i hi)))
theorem own_mono {w : World} {B C : Nat} {t : TypeId} {size n : Nat} {v : Value} {xs : List Value} (h : w.ownsRow B t size v n xs) (hBC : C ≤ B) : w.ownsRow C t size v n xs := by
  obtain ⟨h1, h2 | ⟨g, cap, cur, e, hg, r⟩⟩ := h
  · exact ⟨h1, .inl h2⟩
  · exact ⟨h1, .inr ⟨g, cap, cur, e, Nat.le_trans hBC hg, r⟩⟩

theorem StrsAt.slice {w : World} {B : Nat} {v : Value} {l : List Wd.Bytes} (h : StrsAt w B v l) : ∃ p n c, v = .slice p n c := by
  rcases h.cells with ⟨-, p, c, e⟩ | ⟨k, o, c, e, -⟩
  · exact ⟨_, _, _, e⟩
  · exact ⟨_, _, _, e⟩

/-- The variables' slice stored again. -/
theorem ExAt.same {w : World} {b : Nat} {vv av v : Value} {x : Wd.Ex} (h : ExAt w b vv av x v) : ExAt (w.setCell ⟨b, 0, none⟩ vv) b vv av x v := by
  have hk : Kept (· = b) w (w.setCell ⟨b, 0, none⟩ vv) := (Kept.refl (· = b) w).setCell (.inl rfl) 0 _
  refine ⟨h.blk.set 0 vv, own_kept h.own hk (by rintro k e rfl; have := (h.own.lt k e).1; omega), h.vars.kept hk (by rintro k hk2 rfl; omega), h.args.kept hk (by rintro k hk2 rfl; omega)⟩
/-- An expander of the call's own: nothing older turned. -/
theorem below_kept {W w1 : World} {q : Nat} {vv av v1 : Value} {y : Wd.Ex} (h : ExIs W w1 q vv av y (.slice none 0 0) v1) (hq : q ≤ W.heap.size) : Below q W w1 :=
  ⟨h.kept.os, h.kept.tape, h.kept.output, h.kept.size, fun k hk => h.kept.block k (by omega) (by
    rintro (rfl | e)
    · omega
    · cases e)⟩

set_option maxHeartbeats 1600000 in
set_option maxRecDepth 100000 in
theorem inner_any (f : Nat) (hR : RunC f) : InnerC (f + 1) := by
  intro w b vv av v x s l h hg h8 hs hin
  rw [Wd.inner.eq_def] at hin
  simp only at hin
  rcases hx : Wd.run f ⟨x.vars, x.args, x.status, [], true⟩ s false with _ | y
  · rw [hx] at hin; cases hin
  · rw [hx] at hin
    simp only at hin
    obtain rfl : y.l = l := by
      split at hin
      · cases hin
      · exact Option.some.inj hin
    have hblt := h.blk.lt
    obtain ⟨p0, n0, kk0, rfl⟩ := h.vars.slice
    obtain ⟨p1, n1, k1, rfl⟩ := h.args.slice
    obtain ⟨vv, hvv⟩ : ∃ vv, vv = Value.slice p0 n0 kk0 := ⟨_, rfl⟩
    obtain ⟨av, hav⟩ : ∃ av, av = Value.slice p1 n1 k1 := ⟨_, rfl⟩
    rw [← hvv, ← hav] at h ⊢
    have c0 : w.drew.cell? ⟨b, 0, none⟩ = some vv := h.blk.cell 0 rfl
    have c1 : w.drew.cell? ⟨b, 1, none⟩ = some av := h.blk.cell 1 rfl
    have c2 : w.drew.cell? ⟨b, 2, none⟩ = some (.int .i64 x.status) := h.blk.cell 2 rfl
    have d0 : w.cell? ⟨b, 0, none⟩ = some vv := c0
    have d1 : w.cell? ⟨b, 1, none⟩ = some av := c1
    have d2 : w.cell? ⟨b, 2, none⟩ = some (.int .i64 x.status) := c2
    have hbel : Below w.heap.size w (w.drew.alloc (.cells #[vv, av, .int .i64 x.status, .slice none 0 0, .bool true] 51)) := (below_drew _ w).alloc (Nat.le_refl w.heap.size) _
    have hbel2 : Below w.heap.size w ((w.alloc (.cells #[vv, av, .int .i64 x.status, .slice none 0 0, .bool true] 51)).drew) := ((Below.refl w.heap.size w).alloc (Nat.le_refl _) _).drew
    have hex : ExAt (w.alloc (.cells #[vv, av, .int .i64 x.status, .slice none 0 0, .bool true] 51)).drew w.heap.size vv av ⟨x.vars, x.args, x.status, [], true⟩ (.slice none 0 0) :=
      ⟨(Blk.new w _ _).drew, World.ownsRow_nil _ _ _ _, (h.vars.below hbel2).mono (by omega), (h.args.below hbel2).mono (by omega)⟩
    have hex2 : ExAt (w.drew.alloc (.cells #[vv, av, .int .i64 x.status, .slice none 0 0, .bool true] 51)) w.heap.size vv av ⟨x.vars, x.args, x.status, [], true⟩ (.slice none 0 0) :=
      ⟨Blk.new w.drew _ _, World.ownsRow_nil _ _ _ _, (h.vars.below hbel).mono (by omega), (h.args.below hbel).mono (by omega)⟩
    have hrun : ∀ W, ExAt W w.heap.size vv av ⟨x.vars, x.args, x.status, [], true⟩ (.slice none 0 0) → Below w.heap.size w W → Calls Tryz.prog 21 #[.pointer (some ⟨w.heap.size, 0, none⟩), .string ⟨s.toArray⟩, .bool false] W fun e w' => e = .returned (.tuple #[]) ∧ ∃ v', ExIs W w' w.heap.size vv av y (.slice none 0 0) v' := fun W hW hb =>
      hR W w.heap.size vv av _ _ y s false hW (hg.below hb (by omega)) (by omega) hs hx
    have HH := Lib.hid h
    have HRUN := Lib.hid hrun
    have HEX := Lib.hid hex
    have HEX2 := Lib.hid hex2
    have HBE := Lib.hid hbel
    have HBE2 := Lib.hid hbel2
    clear h hg hin hx hR hrun hex hex2 hbel hbel2
    subst hvv hav
    go_enter Tryz.func78, Tryz.ntmps78
    go_wp2_with fail
    go_region
    all_goals go_wp2_with fail
    all_goals
      first
        | refine (HRUN.out _ HEX.out HBE2.out).mono ?_
        | refine (HRUN.out _ HEX2.out HBE.out).mono ?_
    all_goals
      rintro e w1 ⟨rfl, v1, hx1⟩
      have q0 : w1.cell? ⟨w.heap.size, 0, none⟩ = some (.slice p0 n0 kk0) := hx1.at_.blk.cell 0 rfl
      have q3 : (w1.setCell ⟨b, 0, none⟩ (.slice p0 n0 kk0)).cell? ⟨w.heap.size, 3, none⟩ = some v1 := (hx1.at_.blk.setOther (a := ⟨b, 0, none⟩) (by show w.heap.size ≠ b; omega) (.slice p0 n0 kk0)).cell 3 rfl
    all_goals first
      | have hbw := HBE2.out.trans (below_kept hx1 (by simp))
      | have hbw := HBE.out.trans (below_kept hx1 (by simp))
    all_goals
      have hat := HH.out.below hbw
      have k0 : w1.cell? ⟨b, 0, none⟩ = some (.slice p0 n0 kk0) := hat.blk.cell 0 rfl
      have f0 : w1.frozen? ⟨b, 0, none⟩ = false := hat.blk.free 0
      have HX1 := Lib.hid hx1
      have HAT := Lib.hid hat
      have HBW := Lib.hid hbw
      clear hx1 hat hbw
      go_wp2_with fail
      go_ret
      refine ⟨_, rfl, ?_, HAT.out.same, ?_, fun _ hk => .inl hk⟩
      · exact own_kept (S := (· = b)) (own_mono HX1.out.at_.own (by omega)) ((Kept.refl (· = b) w1).setCell (.inl rfl) 0 _) (by rintro k e rfl; have := (HX1.out.at_.own.lt k e).1; omega)
      · exact (Kept.of_below HBW.out).setCell (.inl (.inl rfl)) 0 _

end Go.Proofs.YtfoehfehnmhhmaaGreatDoor
