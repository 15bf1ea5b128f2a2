/-
  An expander in memory; the walks of put, result, own. Conditions: lengths that no machine holds.
-/
import Derived.Test.YtfoehfehnmhhmaaGreatDoorW5
import Derived.Maps.AppendAt
import Derived.Deep.RegionLaw
import Derived.Deep.AppendLies
namespace Go.Proofs.YtfoehfehnmhhmaaGreatDoor
open Go.RowKit Go.Shelf Go.Maps

/-- A unit, as an interface's value. -/
def unV : Wd.Un → Value
  | .char c q s => .iface 87 (.agg #[.int .u8 c.toNat, .bool q, .bool s])
  | .mark => .iface 68 (.agg #[])
  | .gap => .iface 85 (.agg #[])

/-- Texts in memory, behind a slice, in a block below B. -/
structure StrsAt (w : World) (B : Nat) (v : Value) (l : List Wd.Bytes) : Prop where
  len : l.length < 1073741824
  each : ∀ s ∈ l, s.length < 1073741824
  cells : (l = [] ∧ ∃ p c, v = .slice p 0 c) ∨ ∃ k o c, v = .slice (some ⟨k, o, none⟩) l.length c ∧ l.length ≤ c ∧ k < B ∧ ∀ i, i < l.length → w.cell? ⟨k, o + i, none⟩ = some (.string ⟨(l.getD i []).toArray⟩)

theorem StrsAt.kept {S : Nat → Prop} {w w' : World} {B : Nat} {v : Value} {l : List Wd.Bytes} (h : StrsAt w B v l) (hk : Kept S w w') (hS : ∀ k, k < B → ¬ S k) : StrsAt w' B v l := by
  refine ⟨h.len, h.each, ?_⟩
  rcases h.cells with h1 | ⟨k, o, c, hv, hc, hB, hcell⟩
  · exact .inl h1
  · refine .inr ⟨k, o, c, hv, hc, hB, fun i hi => ?_⟩
    rw [← hcell i hi]
    exact World.cell?_of_block (hk.block k (World.block_lt_of_cell? _ _ (hcell i hi)) (hS k hB))
theorem StrsAt.mono {w : World} {B C : Nat} {v : Value} {l : List Wd.Bytes} (h : StrsAt w B v l) (hBC : B ≤ C) : StrsAt w C v l := by
  refine ⟨h.len, h.each, ?_⟩
  rcases h.cells with h1 | ⟨k, o, c, hv, hc, hB, hcell⟩
  · exact .inl h1
  · exact .inr ⟨k, o, c, hv, hc, by omega, hcell⟩

/-- An expander in memory: its texts lie below it, its units behind it. -/
structure ExAt (w : World) (b : Nat) (vv av : Value) (x : Wd.Ex) (v : Value) : Prop where
  blk : Blk w b #[vv, av, .int .i64 x.status, v, .bool x.one] 51
  own : w.ownsRow (b + 1) 75 1 v x.l.length (x.l.map unV)
  vars : StrsAt w b vv x.vars
  args : StrsAt w b av x.args

theorem own_kept {S : Nat → Prop} {w w' : World} {B : Nat} {t : TypeId} {size n : Nat} {v : Value} {xs : List Value} (h : w.ownsRow B t size v n xs) (hk : Kept S w w') (hS : ∀ k, v.ownBlock = some k → ¬ S k) : w'.ownsRow B t size v n xs := by
  obtain ⟨h1, h2 | ⟨g, cap, cur, e, hg, hb, r⟩⟩ := h
  · exact ⟨h1, .inl h2⟩
  · exact ⟨h1, .inr ⟨g, cap, cur, e, hg, (hk.block g (lt_of_block hb) (hS g (by rw [e]; rfl))).trans hb, r⟩⟩

theorem ExAt.kept {S : Nat → Prop} {w w' : World} {b : Nat} {vv av v : Value} {x : Wd.Ex} (h : ExAt w b vv av x v) (hk : Kept S w w') (hS : ∀ k, k ≤ b ∨ v.ownBlock = some k → ¬ S k) : ExAt w' b vv av x v :=
  ⟨h.blk.kept hk (hS _ (.inl (Nat.le_refl _))), own_kept h.own hk fun k hk => hS k (.inr hk), h.vars.kept hk fun k hk => hS k (.inl (by omega)), h.args.kept hk fun k hk => hS k (.inl (by omega))⟩
theorem ExAt.below {w w' : World} {b : Nat} {vv av v : Value} {x : Wd.Ex} (h : ExAt w b vv av x v) (hk : Below w.heap.size w w') : ExAt w' b vv av x v :=
  h.kept (Kept.of_below (S := fun k => w.heap.size ≤ k) hk) fun k hk2 hs => by
    rcases hk2 with hk2 | hk2
    · have := h.blk.lt; omega
    · have := (h.own.lt k hk2).2; omega

/-- What has become of an expander: of what was there nothing has turned but its own blocks. -/
structure ExIs (w0 w : World) (b : Nat) (vv av : Value) (x : Wd.Ex) (v0 v : Value) : Prop where
  at_ : ExAt w b vv av x v
  kept : Kept (fun k => k = b ∨ v0.ownBlock = some k) w0 w
  fresh : ∀ k, v.ownBlock = some k → v0.ownBlock = some k ∨ w0.heap.size ≤ k

theorem ExAt.is {w : World} {b : Nat} {vv av v : Value} {x : Wd.Ex} (h : ExAt w b vv av x v) : ExIs w w b vv av x v v := ⟨h, Kept.refl _ _, fun _ hk => .inl hk⟩
theorem ExIs.trans {w0 w w' : World} {b : Nat} {vv av v0 v v' : Value} {x x' : Wd.Ex} (h : ExIs w0 w b vv av x v0 v) (h2 : ExIs w w' b vv av x' v v') : ExIs w0 w' b vv av x' v0 v' := by
  refine ⟨h2.at_, h.kept.trans' h2.kept fun k hk hT => ?_, fun k hk => ?_⟩
  · rcases hT with rfl | hT
    · exact .inl rfl
    · rcases h.fresh k hT with h3 | h3
      · exact .inr h3
      · omega
  · rcases h2.fresh k hk with h3 | h3
    · exact h.fresh k h3
    · exact .inr (Nat.le_trans h.kept.size h3)
theorem ExIs.below {w0 w w' : World} {b : Nat} {vv av v0 v : Value} {x : Wd.Ex} (h : ExIs w0 w b vv av x v0 v) (h2 : Below w.heap.size w w') : ExIs w0 w' b vv av x v0 v :=
  ⟨h.at_.below h2, h.kept.trans (Kept.of_below h2), h.fresh⟩

theorem kept_grown {w w2 w1 : World} {o : Option Nat} (h : Kept (fun _ => False) w w2) (hg : w2.grownBy w1 o) : Kept (fun k => o = some k) w w1 :=
  ⟨hg.os.trans h.os, hg.tape.trans h.tape, hg.output.trans h.output, Nat.le_trans h.size hg.size, fun k hk hs => (hg.block k (Nat.lt_of_lt_of_le hk h.size) fun e => hs e.symm).trans (h.block k hk id)⟩

/-- A unit more. -/
theorem ExAt.pushed {w w1 : World} {b : Nat} {vv av v : Value} {x : Wd.Ex} {g c : Nat} {u : Wd.Un} (h : ExAt w b vv av x v)
    (hown1 : w1.ownsRow (b + 1) 75 1 (.slice (some ⟨g, 0, none⟩) (x.l.length + 1) c) (x.l.length + 1) (x.l.map unV ++ [unV u]))
    (hk : Kept (fun k => v.ownBlock = some k) w w1) (hg : v.ownBlock = some g ∨ w.heap.size ≤ g) :
    ExIs w (w1.setCell ⟨b, 3, none⟩ (.slice (some ⟨g, 0, none⟩) (x.l.length + 1) c)) b vv av (x.add [u]) v (.slice (some ⟨g, 0, none⟩) (x.l.length + 1) c) := by
  have hob : ∀ k, v.ownBlock = some k → b + 1 ≤ k := fun k e => (h.own.lt k e).1
  have hb := h.blk.lt
  have hgb : b + 1 ≤ g := by rcases hg with e | e; exact hob g e; omega
  have hk2 : Kept (fun k => k = b ∨ v.ownBlock = some k) w (w1.setCell ⟨b, 3, none⟩ (.slice (some ⟨g, 0, none⟩) (x.l.length + 1) c)) := (hk.mono fun k _ e => .inr e).setCell (.inl (.inl rfl)) 3 _
  refine ⟨⟨?_, ?_, ?_, ?_⟩, hk2, fun k hk3 => ?_⟩
  · exact (h.blk.kept hk fun e => by have := hob b e; omega).set 3 _
  · have hl : (x.add [u]).l = x.l ++ [u] := rfl
    rw [hl, List.length_append, List.map_append]
    refine own_kept (S := (· = b)) (w := w1) hown1 ((Kept.refl (· = b) w1).setCell (.inl rfl) 3 _) ?_
    rintro k e rfl
    have : k = g := by injection e with e; exact e.symm
    omega
  · exact h.vars.kept hk2 fun k hk3 hs => by
      rcases hs with e | e
      · omega
      · have := hob k e; omega
  · exact h.args.kept hk2 fun k hk3 hs => by
      rcases hs with e | e
      · omega
      · have := hob k e; omega
  · have : k = g := by injection hk3 with e; exact e.symm
    rw [this]; exact hg

theorem info_unit : (Tryz.prog.info? 75).map (fun i => (i.zero, i.size, i.bytes)) = some (some .nilIface, 1, 16) := by kernel_rfl

theorem Ex_add_add (x : Wd.Ex) (a b : List Wd.Un) : (x.add a).add b = x.add (a ++ b) := by simp [Wd.Ex.add]
theorem Ex_add_nil (x : Wd.Ex) : x.add [] = x := by simp [Wd.Ex.add]
theorem chars_succ {s : Wd.Bytes} {i : Nat} {c : UInt8} (h : s.drop i = c :: s.drop (i + 1)) (hi : i < s.length) (q t : Bool) : Wd.chars (s.take (i + 1)) q t = Wd.chars (s.take i) q t ++ [.char c q t] := by
  rw [List.take_succ_eq_append_getElem hi]
  rw [List.drop_eq_getElem_cons hi] at h
  simp [Wd.chars, (List.cons.inj h).1]

set_option maxHeartbeats 3200000 in
set_option maxRecDepth 100000 in
theorem put_any (w : World) (b : Nat) (vv av v : Value) (x : Wd.Ex) (s : Wd.Bytes) (q t : Bool) (h : ExAt w b vv av x v) (hl : x.l.length ≤ 4294967296) (hs : s.length ≤ 4294967296) :
    Calls Tryz.prog 36 #[.pointer (some ⟨b, 0, none⟩), .string ⟨s.toArray⟩, .bool q, .bool t] w fun e w' => e = .returned (.tuple #[]) ∧ ∃ v', ExIs w w' b vv av (x.put s q t) v v' := by
  obtain ⟨i0, hi0, hz0, hz1, hz2⟩ := info_parts info_unit
  have H := Lib.hid h
  clear h
  go_enter Tryz.func36, Tryz.ntmps36
  go_wp2_with fail
  go_loopw [8, 11] (fun _ x11 wr => ∃ (i : Nat) (v1 : Value), i ≤ s.length ∧ x11 = .int .i64 i ∧ Hid (ExIs w wr b vv av (x.add (Wd.chars (s.take i) q t)) v v1)) (fun _ x11 _ => s.length - (intOf x11).toNat)
  case atStart => exact ⟨0, v, Nat.zero_le _, rfl, by show ExIs _ _ _ _ _ _ _ _; rw [List.take_zero]; show ExIs _ _ _ _ _ (x.add []) _ _; rw [Ex_add_nil]; exact H.out.is⟩
  case round =>
    obtain ⟨i, v1, hi, rfl, HX⟩ := hrel
    by_cases hlt : i < s.length
    · obtain ⟨c, hc, ic⟩ := byte_at hlt
      have hch := chars_succ hc hlt q t
      have HC := Lib.hid hch
      have hat := HX.out.at_
      clear hc hch
      have hxl : (x.add (Wd.chars (s.take i) q t)).l.length ≤ 8589934592 := by simp [Wd.Ex.add, Wd.chars]; omega
      obtain ⟨y, hy⟩ : ∃ y, x.add (Wd.chars (s.take i) q t) = y := ⟨_, rfl⟩
      rw [hy] at hxl HX hat
      have HY := Lib.hid hy
      clear hy
      obtain ⟨O, hO⟩ : ∃ O : Obj, O = .cells #[.iface 87 (.agg #[.int .u8 c.toNat, .bool q, .bool t])] 75 := ⟨_, rfl⟩
      have d5 : (wr.alloc O).drew.heap[wr.heap.size]? = some O := heap_alloc_new wr O
      have hown2 : (wr.alloc O).drew.ownsRow (b + 1) 75 1 v1 y.l.length (y.l.map unV) := (hat.own.alloc O).drew
      have hsz2 : (wr.alloc O).drew.heap.size = wr.heap.size + 1 := by simp
      have hbw := hat.blk.lt
      have hob : v1.ownBlock ≠ some b := fun e => by have := (hat.own.lt b e).1; omega
      have c0 : wr.cell? ⟨b, 3, none⟩ = some v1 := hat.blk.cell 3 rfl
      have c1 : wr.drew.cell? ⟨b, 3, none⟩ = some v1 := hat.blk.cell 3 rfl
      have cq2 : (wr.alloc O).drew.cell? ⟨b, 3, none⟩ = some v1 := (hat.blk.alloc O).cell 3 rfl
      have fq2 : (wr.alloc O).drew.frozen? ⟨b, 3, none⟩ = false := (hat.blk.alloc O).free 3
      have hob2 : v1.ownBlock ≠ some wr.heap.size := fun e => by have := (hat.own.lt _ e).2; omega
      have HAT := Lib.hid hat
      clear hat
      subst hO
      go_wp2_with fail
      go_region_law
        ((refine step_append_lies _ (by rfl) _ _ _ (by rfl) (b + 1) 75 i0 _ 1 16 Tryz.underlying49 hi0 hz0 hz1 hz2 rfl (by decide) v1 y.l.length (y.l.map unV) (by rfl) hown2
            ⟨wr.heap.size, 0, none⟩ 1 1 [.iface 87 (.agg #[.int .u8 c.toNat, .bool q, .bool t])] (by rfl) (by rfl) (World.news_of_block d5) (by simp [Value.oneCell'])
            (by decide) (by unfold maxLen; omega) (by omega) (by rw [hsz2]; omega) (wr.heap.size + 1) hsz2 ?_; intro gg cap w1 hown1 hgrow hat hlt; have fq := hgrow.frozen_far (a := ⟨b, 3, none⟩) (by rw [hsz2]; show b < _; omega) (Ne.symm hob); rw [fq2] at fq; have cq := hgrow.cell_far ⟨b, 3, none⟩ (by rw [hsz2]; show b < _; omega) (Ne.symm hob); rw [cq2] at cq))
      all_goals
        have hk : Kept (fun k => v1.ownBlock = some k) wr w1 := kept_grown (((Kept.refl _ wr).alloc _).drew) hgrow
        have hpp := HAT.out.pushed (u := .char c q t) hown1 hk (by rcases hat with e | e; exact .inl e; exact .inr (by omega))
        have HPP := Lib.hid (HX.out.trans hpp)
        clear hpp hk hgrow hown1 hown2 d5 hsz2 hat
        go_wp2_with fail
        refine ⟨⟨i + 1, .slice (some ⟨gg, 0, none⟩) (y.l.length + 1) cap, by omega, by go_num, ?_⟩, ?_⟩
        · show ExIs _ _ _ _ _ _ _ _
          rw [HC.out, ← Ex_add_add, HY.out]
          exact HPP.out
        · show s.length - ((i : Int) + 1).toNat < s.length - (i : Int).toNat
          omega
    · obtain rfl : i = s.length := by omega
      have HX2 : Hid (ExIs w wr b vv av (x.put s q t) v v1) := by
        have := HX.out
        rw [List.take_length] at this
        exact this
      go_wp2_with fail
      refine bodyPost_end (results_none rfl _ _ _) rfl ?_
      exact ⟨rfl, v1, HX2.out⟩

set_option maxRecDepth 100000 in
theorem result_any (w : World) (b : Nat) (vv av v : Value) (x : Wd.Ex) (s : Wd.Bytes) (q : Bool) (h : ExAt w b vv av x v) (hl : x.l.length ≤ 4294967296) (hs : s.length ≤ 4294967296) :
    Calls Tryz.prog 74 #[.pointer (some ⟨b, 0, none⟩), .string ⟨s.toArray⟩, .bool q] w fun e w' => e = .returned (.tuple #[]) ∧ ∃ v', ExIs w w' b vv av (x.result s q) v v' := by
  have hp := put_any w b vv av v x s q (!q) h hl hs
  clear h
  go_enter Tryz.func74, Tryz.ntmps74
  go_wp2_with fail
  refine hp.mono ?_
  rintro e w' ⟨rfl, v', hx⟩
  have HX := Lib.hid hx
  clear hx
  go_wp2_with fail
  refine bodyPost_end (results_none rfl _ _ _) rfl ?_
  exact ⟨rfl, v', HX.out⟩

end Go.Proofs.YtfoehfehnmhhmaaGreatDoor
