/-
  The walks of double and plain. Condition: lengths.
-/
import Derived.Test.YtfoehfehnmhhmaaGreatDoorW16
namespace Go.Proofs.YtfoehfehnmhhmaaGreatDoor
open Go.RowKit Go.Shelf Go.Maps

/-- A unit more, behind whatever slice. -/
theorem ExAt.pushedV {w w1 : World} {b : Nat} {vv av v v' : Value} {x : Wd.Ex} {u : Wd.Un} (h : ExAt w b vv av x v)
    (hown1 : w1.ownsRow (b + 1) 75 1 v' (x.l.length + 1) (x.l.map unV ++ [unV u]))
    (hk : Kept (fun k => v.ownBlock = some k) w w1) (hg : ∀ k, v'.ownBlock = some k → v.ownBlock = some k ∨ w.heap.size ≤ k) :
    ExIs w (w1.setCell ⟨b, 3, none⟩ v') b vv av (x.add [u]) v v' := by
  have hob : ∀ k, v.ownBlock = some k → b + 1 ≤ k := fun k e => (h.own.lt k e).1
  have hb := h.blk.lt
  have hk2 : Kept (fun k => k = b ∨ v.ownBlock = some k) w (w1.setCell ⟨b, 3, none⟩ v') := (hk.mono fun k _ e => .inr e).setCell (.inl (.inl rfl)) 3 _
  refine ⟨⟨?_, ?_, ?_, ?_⟩, hk2, hg⟩
  · exact (h.blk.kept hk fun e => by have := hob b e; omega).set 3 _
  · have hl : (x.add [u]).l = x.l ++ [u] := rfl
    rw [hl, List.length_append, List.map_append]
    refine own_kept (S := (· = b)) (w := w1) hown1 ((Kept.refl (· = b) w1).setCell (.inl rfl) 3 _) ?_
    rintro k e rfl
    have := (hown1.lt k e).1
    omega
  · exact h.vars.kept hk2 fun k hk3 hs => by
      rcases hs with e | e
      · omega
      · have := hob k e; omega
  · exact h.args.kept hk2 fun k hk3 hs => by
      rcases hs with e | e
      · omega
      · have := hob k e; omega

theorem Ex_add_l (x : Wd.Ex) (u : List Wd.Un) : (x.add u).l = x.l ++ u := rfl
theorem below_drew2 (w : World) : Below w.heap.size w w.drew := ⟨rfl, rfl, rfl, Nat.le_refl _, fun _ _ => rfl⟩

/-- What is known ahead of a unit's being put in. -/
structure PushIn (W W2 : World) (b : Nat) (x : Wd.Ex) (v : Value) : Prop where
  own : W2.ownsRow (b + 1) 75 1 v x.l.length (x.l.map unV)
  c : W2.cell? ⟨b, 3, none⟩ = some v
  f : W2.frozen? ⟨b, 3, none⟩ = false
  blt : b < W.heap.size
  size : W2.heap.size = W.heap.size + 1
  ob : v.ownBlock ≠ some b
  kept : Kept (fun _ => False) W W2
theorem ExAt.pushIn {W : World} {b : Nat} {vv av v : Value} {x : Wd.Ex} (h : ExAt W b vv av x v) (O : Obj) : PushIn W (W.alloc O) b x v :=
  ⟨h.own.alloc O, (h.blk.alloc O).cell 3 rfl, (h.blk.alloc O).free 3, h.blk.lt, by simp, fun e => by have := (h.own.lt b e).1; omega, (Kept.refl _ W).alloc _⟩
theorem PushIn.drew {W W2 : World} {b : Nat} {v : Value} {x : Wd.Ex} (h : PushIn W W2 b x v) : PushIn W W2.drew b x v :=
  ⟨h.own.drew, h.c, h.f, h.blt, h.size, h.ob, h.kept.drew⟩
theorem PushIn.far {W W2 w1 : World} {b : Nat} {v : Value} {x : Wd.Ex} (h : PushIn W W2 b x v) (hg : W2.grownBy w1 v.ownBlock) : w1.cell? ⟨b, 3, none⟩ = some v ∧ w1.frozen? ⟨b, 3, none⟩ = false :=
  ⟨(hg.cell_far ⟨b, 3, none⟩ (by have := h.size; have := h.blt; show b < _; omega) (Ne.symm h.ob)).trans h.c, (hg.frozen_far (a := ⟨b, 3, none⟩) (by have := h.size; have := h.blt; show b < _; omega) (Ne.symm h.ob)).trans h.f⟩

/-- Behind a unit's being put in. -/
theorem ExAt.pushOut {W W2 w1 : World} {b : Nat} {vv av v v' : Value} {x : Wd.Ex} {u : Wd.Un} (h : ExAt W b vv av x v) (hp : PushIn W W2 b x v)
    (hown : w1.ownsRow (b + 1) 75 1 v' (x.l.length + 1) (x.l.map unV ++ [unV u])) (hg : W2.grownBy w1 v.ownBlock)
    (hv : v'.ownBlock = v.ownBlock ∨ v'.ownBlock = some W2.heap.size) : ExIs W (w1.setCell ⟨b, 3, none⟩ v') b vv av (x.add [u]) v v' := by
  refine h.pushedV hown (kept_grown hp.kept hg) fun k hk => ?_
  rcases hv with e | e
  · exact .inl (e ▸ hk)
  · rw [e] at hk
    have : W2.heap.size = k := by injection hk
    exact .inr (by have := hp.size; omega)

theorem ExIs.glo {w0 w : World} {b : Nat} {vv av v0 v : Value} {x x0 : Wd.Ex} (h : ExIs w0 w b vv av x v0 v) (h0 : ExAt w0 b vv av x0 v0) (hg : Glo w0) (h8 : 8 ≤ b) : Glo w :=
  hg.kept h.kept (fun k hk => by
    rcases hk with rfl | e
    · exact h8
    · have := (h0.own.lt k e).1; omega) (by have := h0.blk.lt; omega)

theorem own_slice {w : World} {B : Nat} {t : TypeId} {size n : Nat} {v : Value} {xs : List Value} (h : w.ownsRow B t size v (n + 1) xs) : ∃ g c, v = .slice (some ⟨g, 0, none⟩) (n + 1) c := by
  obtain ⟨h1, ⟨-, h2⟩ | ⟨g, cap, cur, e, -⟩⟩ := h
  · exact absurd h2 (by omega)
  · exact ⟨g, cap, e⟩
theorem str_ne {s t : Wd.Bytes} (h : s ≠ t) : ((⟨s.toArray⟩ : ByteArray) == ⟨t.toArray⟩) = false := by
  show (s.toArray == t.toArray) = false
  rw [beq_eq_false_iff_ne]; intro e
  exact h (by simpa using e)

set_option maxHeartbeats 3200000 in
set_option maxRecDepth 100000 in
theorem double_any (f : Nat) (hR : RunC f) : DoubleC (f + 1) := by
  intro w b vv av v x y s h hg h8 hl hs hd
  obtain ⟨i0, hi0, hz0, hz1, hz2⟩ := info_parts info_unit
  rw [Wd.double.eq_def] at hd
  simp only at hd
  have ho := own_any w b vv av v x h
  have hblt := h.blk.lt
  by_cases hc : 0 < x.own.length ∨ (s ≠ [36, 64] ∧ s ≠ [36, 123, 64, 125])
  · rw [if_pos hc] at hd
    have hpi := (h.pushIn (.cells #[.iface 68 (.agg #[])] 75)).drew
    have hcell : ∀ j u, [Value.iface 68 (.agg #[])][j]? = some u → (w.alloc (.cells #[.iface 68 (.agg #[])] 75)).drew.cell? ((⟨w.heap.size, 0, none⟩ : Addr).add j) = some u := cell_one_new _ _ _
    have hd2 : (w.alloc (.cells #[.iface 68 (.agg #[])] 75)).drew.cell? ⟨b, 3, none⟩ = some v := hpi.c
    have hd3 : w.drew.cell? ⟨b, 3, none⟩ = some v := h.blk.cell 3 rfl
    have hd4 : w.cell? ⟨b, 3, none⟩ = some v := h.blk.cell 3 rfl
    have HCELL := Lib.hid hcell
    have HPI := Lib.hid hpi
    have HD := Lib.hid hd
    have HG := Lib.hid hg
    have HAT := Lib.hid h
    clear hd hg h hpi hcell
    have hc3 : ((0 : Int) < (x.own.length : Nat) ∧ 0 < x.own.length) ∨ (x.own.length = 0 ∧ ((s == [36, 64]) = false ∧ ¬ s = [36, 64]) ∧ ((s == [36, 123, 64, 125]) = false ∧ ¬ s = [36, 123, 64, 125])) := by
      by_cases h0 : 0 < x.own.length
      · exact .inl ⟨by omega, h0⟩
      · exact .inr ⟨by omega, ⟨beq_eq_false_iff_ne.2 (hc.resolve_left h0).1, (hc.resolve_left h0).1⟩, ⟨beq_eq_false_iff_ne.2 (hc.resolve_left h0).2, (hc.resolve_left h0).2⟩⟩
    clear hc
    generalize x.own.length = L at *
    rcases hc3 with ⟨hA, hA2⟩ | ⟨rfl, ⟨hB1, hB3⟩, ⟨hB2, hB4⟩⟩
    all_goals
      go_enter Tryz.func37, Tryz.ntmps37
      go_wp2_with fail
      refine ho.mono ?_
      rintro e w2 ⟨⟨v7, rfl, -, pp, cc, rfl⟩, rfl⟩
      clear ho
      go_wp2_with (at_builtin; refine wpList_append_own_at _ rfl _ _ 49 rfl (b + 1) 75 i0 .nilIface 1 16 Tryz.underlying49 hi0 hz0 hz1 hz2 rfl (by decide) _ _ _ rfl HPI.out.own ⟨w.heap.size, 0, none⟩ 1 1 [.iface 68 (.agg #[])] (by rfl) rfl HCELL.out (by simp [Value.oneCell']) (by unfold maxLen; omega) (by omega) (by have := HPI.out.size; rw [this]; omega) ?_; intro v' w5 hown' hgrow _ hv'; obtain ⟨gg, cap, rfl⟩ := own_slice hown'; obtain ⟨hc5, hf5⟩ := HPI.out.far hgrow; have HXP := Lib.hid (HAT.out.pushOut (u := .mark) HPI.out hown' hgrow hv'); clear hown' hgrow hv')
      have hrun := hR _ b vv av _ _ y s true HXP.out.at_ (HXP.out.glo HAT.out HG.out h8) h8 hs HD.out
      refine hrun.mono ?_
      rintro e w6 ⟨rfl, v6, hx6⟩
      have HX6 := Lib.hid (HXP.out.trans hx6)
      clear hx6 hrun
      go_wp2_with fail
      refine bodyPost_end (results_none rfl _ _ _) rfl ?_
      exact ⟨rfl, v6, HX6.out⟩
  · rw [if_neg hc] at hd
    have hrun := hR w.drew b vv av v x y s true (h.below (below_drew2 w)) (hg.below (below_drew2 w) (by omega)) h8 hs hd
    have hL : x.own.length = 0 := by
      by_cases h0 : 0 < x.own.length
      · exact absurd (.inl h0) hc
      · omega
    have hs2 : s = [36, 64] ∨ s = [36, 123, 64, 125] := by
      by_cases h1 : s = [36, 64]
      · exact .inl h1
      · by_cases h2 : s = [36, 123, 64, 125]
        · exact .inr h2
        · exact absurd (.inr ⟨h1, h2⟩) hc
    have HXP := Lib.hid (h.is.below (below_drew2 w))
    rw [hL] at ho
    clear hc hd hg h hL
    rcases hs2 with rfl | rfl
    all_goals
      go_enter Tryz.func37, Tryz.ntmps37
      go_wp2_with fail
      refine ho.mono ?_
      rintro e w2 ⟨⟨v7, rfl, -, pp, cc, rfl⟩, rfl⟩
      clear ho
      go_wp2_with fail
      refine hrun.mono ?_
      rintro e w6 ⟨rfl, v6, hx6⟩
      have HX6 := Lib.hid (HXP.out.trans hx6)
      clear hx6 hrun
      go_wp2_with fail
      refine bodyPost_end (results_none rfl _ _ _) rfl ?_
      exact ⟨rfl, v6, HX6.out⟩

end Go.Proofs.YtfoehfehnmhhmaaGreatDoor
