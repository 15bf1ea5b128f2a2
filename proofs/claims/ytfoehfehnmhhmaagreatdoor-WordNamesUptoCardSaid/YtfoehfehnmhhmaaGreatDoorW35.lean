/-
  The walks of Lex, alike, scope, says. Condition: lengths.
-/
import Derived.Test.YtfoehfehnmhhmaaGreatDoorW34
namespace Go.Proofs.YtfoehfehnmhhmaaGreatDoor
open Go.RowKit Go.Shelf Go.Maps

set_option maxHeartbeats 3200000 in
set_option maxRecDepth 100000 in
theorem Lex_any (w : World) (s : Wd.Bytes) (L : List (Nat × Wd.Bytes)) (hs : s.length < 1073741823) (hr : Wd.lex s = some L) :
    Calls Tryz.prog 17 #[.string ⟨s.toArray⟩] w fun e w' => (∃ v, e = .returned (.tuple #[v, .int .i64 0]) ∧ w'.ownsRow w.heap.size 43 2 v L.length (toks L)) ∧ Below w.heap.size w w' := by
  have hmf : ∀ (fn : Fn) (first cap : Array Value) (w : World), (Instr.makeFunc fn first cap).run Tryz.prog w = .ok (.func fn first cap) w := fun _ _ _ _ => rfl
  obtain ⟨O1, hO1⟩ : ∃ O : Obj, O = .cells #[.string ⟨s.toArray⟩, .slice none 0 0] 61 := ⟨_, rfl⟩
  obtain ⟨O2, hO2⟩ : ∃ O : Obj, O = .cells #[.pointer (some ⟨w.heap.size, 0, none⟩)] 59 := ⟨_, rfl⟩
  obtain ⟨W3, e3⟩ : ∃ W, W = (w.alloc O1).alloc O2 := ⟨_, rfl⟩
  obtain ⟨W4, e4⟩ : ∃ W, W = W3.alloc (.cells #[.int .i64 0] 26) := ⟨_, rfl⟩
  have s3 : W3.heap.size = w.heap.size + 2 := by rw [e3]; simp
  have hb3 : Below w.heap.size w W3 := by rw [e3]; exact ((Below.refl _ _).alloc (Nat.le_refl _) _).alloc (by simp) _
  have hb4 : Below w.heap.size w W4 := by rw [e4]; exact hb3.alloc (by omega) _
  have hat : LxAt W4 w.heap.size s [] (.slice none 0 0) := by
    rw [e4, e3, hO1]
    exact ⟨((Blk.new w _ _).alloc _).alloc _, World.ownsRow_nil _ _ _ _⟩
  have kq : Blk W4 (w.heap.size + 1) #[.pointer (some ⟨w.heap.size, 0, none⟩)] 59 := by
    rw [e4, e3, hO2]
    have := (Blk.new (w.alloc O1) #[.pointer (some ⟨w.heap.size, 0, none⟩)] 59).alloc (.cells #[.int .i64 0] 26)
    rwa [show (w.alloc O1).heap.size = w.heap.size + 1 by simp] at this
  have hlex := lex1_any W4 w.heap.size (w.heap.size + 1) (s.length + 1) s [] L (.slice none 0 0) hat (kq.cell 0 rfl) (by rintro (h | h); omega; cases h) (by omega) (by simp; omega) hr
  have hcau := caught_lex W3 (w.heap.size + 1) (fun w' => ∃ v', LxIs W4 w' w.heap.size [] L (.slice none 0 0) v') (fun k => k = w.heap.size) (by omega)
    (by rw [← e4]; exact hlex.mono fun e w' ⟨h1, v', hx⟩ => ⟨h1, ⟨v', hx⟩, hx.kept.mono (by rintro k - (h | h); exact h; cases h)⟩)
  have HCAU := Lib.hid hcau
  have HB4 := Lib.hid hb4
  have HKQ := Lib.hid kq
  have E3 := Lib.hid e3
  have E4 := Lib.hid e4
  have s4 : W4.heap.size = w.heap.size + 3 := by rw [e4]; simp [s3]
  clear hcau hlex kq hat hb3 hb4 e3 e4
  subst hO1 hO2
  go_enter Tryz.func17, Tryz.ntmps17
  go_wp2_with fail
  rw [← E3.out]
  refine HCAU.out.mono ?_
  rintro e w9 ⟨rfl, w8, ⟨v', hx⟩, -, rfl⟩
  have hk : Kept (· = W3.heap.size) w8 (w8.setCell ⟨W3.heap.size, 0, none⟩ (.int .i64 0)) := (Kept.refl (· = W3.heap.size) w8).setCell (.inl rfl) 0 _
  have hb8 : Below w.heap.size w (w8.setCell ⟨W3.heap.size, 0, none⟩ (.int .i64 0)) := (HB4.out.trans (below_of_kept hx.kept (by rintro k (h | h); omega; cases h) (by omega))).trans (below_of_kept hk (by rintro k rfl; omega) (by have := hx.kept.size; omega))
  have hob : ∀ k, v'.ownBlock = some k → k ≠ W3.heap.size := by
    intro k e
    rcases hx.fresh k e with h | h
    · cases h
    · omega
  have hown := own_kept hx.at_.own hk hob
  have m1 : (w8.setCell ⟨W3.heap.size, 0, none⟩ (.int .i64 0)).cell? ⟨w.heap.size + 1, 0, none⟩ = some (.pointer (some ⟨w.heap.size, 0, none⟩)) := ((HKQ.out.kept hx.kept (by rintro (h | h); omega; cases h)).kept hk (by omega)).cell 0 rfl
  have m2 : (w8.setCell ⟨W3.heap.size, 0, none⟩ (.int .i64 0)).cell? ⟨w.heap.size, 1, none⟩ = some v' := (hx.at_.blk.kept hk (by omega)).cell 1 rfl
  have HOWN := Lib.hid hown
  have HB8 := Lib.hid hb8
  clear hx hk hb8 hob hown HCAU
  generalize w8.setCell ⟨W3.heap.size, 0, none⟩ (.int .i64 0) = w5 at *
  go_wp2_with fail
  go_ret2
  exact ⟨⟨_, rfl, own_mono HOWN.out (by omega)⟩, HB8.out⟩

/-- A row of texts that is read. -/
def RowAt (w : World) (v : Value) (l : List Wd.Bytes) : Prop := ∃ p c, v = .slice p l.length c ∧ ∀ i, i < l.length → ∃ g o, p = some ⟨g, o, none⟩ ∧ w.cell? ⟨g, o + i, none⟩ = some (.string ⟨(l.getD i []).toArray⟩)
theorem StrsAt.row {w : World} {B : Nat} {v : Value} {l : List Wd.Bytes} (h : StrsAt w B v l) : RowAt w v l := by
  rcases h.cells with ⟨rfl, p, c, rfl⟩ | ⟨k, o, c, rfl, -, -, hc⟩
  · exact ⟨_, _, rfl, fun i hi => absurd hi (Nat.not_lt_zero i)⟩
  · exact ⟨_, _, rfl, fun i hi => ⟨k, o, rfl, hc i hi⟩⟩
theorem row_of_own {w : World} {B : Nat} {v : Value} {l : List Wd.Bytes} (h : w.ownsRow B 9 1 v l.length (l.map strV)) : RowAt w v l := by
  rcases h.2 with ⟨h1, h2⟩ | ⟨g, cap, cur, rfl, -⟩
  · exact ⟨none, 0, by rw [h2]; exact h1, fun i hi => by omega⟩
  · refine ⟨_, _, rfl, fun i hi => ⟨g, 0, rfl, ?_⟩⟩
    have := h.cellAt i (by omega)
    rw [Nat.zero_add, this]
    simp [List.getD_eq_getElem?_getD, hi, strV]
theorem RowAt.below {w w' : World} {v : Value} {l : List Wd.Bytes} (h : RowAt w v l) (hb : Below w.heap.size w w') : RowAt w' v l := by
  obtain ⟨p, c, rfl, hc⟩ := h
  refine ⟨p, c, rfl, fun i hi => ?_⟩
  obtain ⟨g, o, hp, hc⟩ := hc i hi
  exact ⟨g, o, hp, by rw [← hc]; exact World.cell?_of_block (hb.block g (World.block_lt_of_cell? _ _ hc))⟩

set_option maxHeartbeats 3200000 in
set_option maxRecDepth 100000 in
theorem alike_any (w : World) (v1 v2 : Value) (l : List Wd.Bytes) (h1 : RowAt w v1 l) (h2 : RowAt w v2 l) (hl : l.length ≤ 4294967296) :
    Calls Tryz.prog 11 #[v1, v2] w fun e w' => e = .returned (.bool true) ∧ Below w.heap.size w w' := by
  obtain ⟨p1, c1, rfl, hc1⟩ := h1
  obtain ⟨p2, c2, rfl, hc2⟩ := h2
  have HC1 := Lib.hid hc1
  have HC2 := Lib.hid hc2
  clear hc1 hc2
  generalize l.length = n at *
  go_enter Tryz.func11, Tryz.ntmps11
  go_wp2_with fail
  go_loopw [5] (fun x5 wr => ∃ (i : Nat), i ≤ n ∧ x5 = .int .i64 i ∧ Hid (Below w.heap.size w wr)) (fun x5 _ => n - (intOf x5).toNat)
  case atStart => exact ⟨0, Nat.zero_le _, rfl, Below.refl _ _⟩
  case round =>
    obtain ⟨i, hi, rfl, HB⟩ := hrel
    by_cases hlt : i < n
    · have ic : (i : Int) < (n : Int) := by omega
      obtain ⟨g1, o1, rfl, k1⟩ := HC1.out i hlt
      obtain ⟨g2, o2, rfl, k2⟩ := HC2.out i hlt
      have m1 : wr.drew.cell? ⟨g1, o1 + i, none⟩ = some (.string ⟨(l.getD i []).toArray⟩) := by rw [← k1]; exact World.cell?_of_block (HB.out.block _ (World.block_lt_of_cell? _ _ k1))
      have m2 : wr.drew.cell? ⟨g2, o2 + i, none⟩ = some (.string ⟨(l.getD i []).toArray⟩) := by rw [← k2]; exact World.cell?_of_block (HB.out.block _ (World.block_lt_of_cell? _ _ k2))
      have n1 : wr.cell? ⟨g1, o1 + i, none⟩ = some (.string ⟨(l.getD i []).toArray⟩) := m1
      have n2 : wr.cell? ⟨g2, o2 + i, none⟩ = some (.string ⟨(l.getD i []).toArray⟩) := m2
      clear k1 k2
      generalize l.getD i [] = t at *
      go_wp2_with fail
      go_region
      all_goals go_wp2_with fail
      all_goals
        refine ⟨⟨i + 1, by omega, by go_num, HB.out.drew⟩, ?_⟩
        show n - ((i : Int) + 1).toNat < n - (i : Int).toNat
        omega
    · obtain rfl : n = i := by omega
      go_wp2_with fail
      go_ret
      exact ⟨rfl, HB.out⟩

def scopeV : List Wd.Bytes := [[65, 61, 120, 32, 121], [69, 61]]
def scopeA : List Wd.Bytes := [[115, 104], [112], [113, 32, 114]]

set_option maxRecDepth 100000 in
theorem scope_any (w : World) : Calls Tryz.prog 30 #[] w fun e w' => (∃ vv av, e = .returned (.agg #[vv, av, .int .i64 (0 : Nat)]) ∧ StrsAt w' w'.heap.size vv scopeV ∧ StrsAt w' w'.heap.size av scopeA) ∧ Below w.heap.size w w' := by
  go_enter Tryz.func30, Tryz.ntmps30
  go_wp2_with fail
  have hb1 : Blk _ w.heap.size #[.slice (some ⟨w.heap.size + 1, 0, none⟩) 2 2, .slice (some ⟨w.heap.size + 1 + 1, 0, none⟩) 3 3, .int .i64 0] 25 :=
    ((Blk.new w #[.slice (some ⟨w.heap.size + 1, 0, none⟩) 2 2, .slice (some ⟨w.heap.size + 1 + 1, 0, none⟩) 3 3, .int .i64 0] 25).alloc (.cells #[.string ⟨#[65, 61, 120, 32, 121]⟩, .string ⟨#[69, 61]⟩] 9)).alloc (.cells #[.string ⟨#[115, 104]⟩, .string ⟨#[112]⟩, .string ⟨#[113, 32, 114]⟩] 9)
  have c0 := hb1.cell 0 (v := .slice (some ⟨w.heap.size + 1, 0, none⟩) 2 2) rfl
  have c1 := hb1.cell 1 (v := .slice (some ⟨w.heap.size + 1 + 1, 0, none⟩) 3 3) rfl
  have c2 := hb1.cell 2 (v := .int .i64 0) rfl
  have hsv := strs_new (w.alloc (.cells #[.slice (some ⟨w.heap.size + 1, 0, none⟩) 2 2, .slice (some ⟨w.heap.size + 1 + 1, 0, none⟩) 3 3, .int .i64 0] 25)) scopeV (by decide) (by decide)
  have hsa := strs_new ((w.alloc (.cells #[.slice (some ⟨w.heap.size + 1, 0, none⟩) 2 2, .slice (some ⟨w.heap.size + 1 + 1, 0, none⟩) 3 3, .int .i64 0] 25)).alloc (.cells #[.string ⟨#[65, 61, 120, 32, 121]⟩, .string ⟨#[69, 61]⟩] 9)) scopeA (by decide) (by decide)
  have s1 : (w.alloc (.cells #[.slice (some ⟨w.heap.size + 1, 0, none⟩) 2 2, .slice (some ⟨w.heap.size + 1 + 1, 0, none⟩) 3 3, .int .i64 0] 25)).heap.size = w.heap.size + 1 := by simp
  have s2 : ((w.alloc (.cells #[.slice (some ⟨w.heap.size + 1, 0, none⟩) 2 2, .slice (some ⟨w.heap.size + 1 + 1, 0, none⟩) 3 3, .int .i64 0] 25)).alloc (.cells #[.string ⟨#[65, 61, 120, 32, 121]⟩, .string ⟨#[69, 61]⟩] 9)).heap.size = w.heap.size + 1 + 1 := by simp
  rw [s1] at hsv
  rw [s2] at hsa
  refine bodyPost_ret (v := .agg #[.slice (some ⟨w.heap.size + 1, 0, none⟩) 2 2, .slice (some ⟨w.heap.size + 1 + 1, 0, none⟩) 3 3, .int .i64 0]) (by simp [results, Tryz.results30, go_sem, c0, c1, c2]) rfl ?_
  refine ⟨⟨_, _, rfl, ?_, ?_⟩, (((Below.refl _ _).alloc (Nat.le_refl _) _).alloc (by simp) _).alloc (by simp; omega) _⟩
  · have h := hsv.below (w' := (((w.alloc (.cells #[.slice (some ⟨w.heap.size + 1, 0, none⟩) 2 2, .slice (some ⟨w.heap.size + 1 + 1, 0, none⟩) 3 3, .int .i64 0] 25)).alloc (.cells #[.string ⟨#[65, 61, 120, 32, 121]⟩, .string ⟨#[69, 61]⟩] 9)).alloc (.cells #[.string ⟨#[115, 104]⟩, .string ⟨#[112]⟩, .string ⟨#[113, 32, 114]⟩] 9))) ((Below.refl _ _).alloc (Nat.le_refl _) _)
    exact h.mono (by simp)
  · exact hsa

set_option maxHeartbeats 1600000 in
set_option maxRecDepth 100000 in
theorem says_any (w : World) (s : Wd.Bytes) (want : List Wd.Bytes) (wv : Value) (hw : RowAt w wv want) (hg : Glo w) (h8 : 8 ≤ w.heap.size) (hs : s.length < 1073741824) (hl : want.length ≤ 4294967296) (hx : Wd.expand scopeV scopeA 0 s = some want) :
    Calls Tryz.prog 16 #[.string ⟨s.toArray⟩, wv] w fun e w' => e = .returned (.bool true) ∧ Below w.heap.size w w' := by
  have HW := Lib.hid hw
  have HG := Lib.hid hg
  have HX := Lib.hid hx
  have hsc := scope_any w
  clear hw hg hx
  go_enter Tryz.func16, Tryz.ntmps16
  go_wp2_with fail
  refine hsc.mono ?_
  rintro e w1 ⟨⟨vv, av, rfl, hv, ha⟩, hb1⟩
  have hex := Expand_any w1 _ vv av scopeV scopeA 0 s want hv ha (HG.out.below hb1 h8) (by have := hb1.size; omega) hs HX.out
  have HB1 := Lib.hid hb1
  clear hsc hv ha hb1
  go_wp2_with fail
  refine hex.mono ?_
  rintro e w2 ⟨⟨v1, v2, rfl, hown⟩, hb2⟩
  have hb02 := HB1.out.trans (hb2.mono HB1.out.size)
  have hal := alike_any w2 v1 wv want (row_of_own hown) (HW.out.below hb02) hl
  have HB2 := Lib.hid hb02
  clear hex hown hb2 hb02
  go_wp2_with fail
  refine hal.mono ?_
  rintro e w3 ⟨rfl, hb3⟩
  have HB3 := Lib.hid (HB2.out.trans (hb3.mono HB2.out.size))
  clear hal hb3
  go_wp2_with fail
  go_ret
  exact ⟨rfl, HB3.out⟩

end Go.Proofs.YtfoehfehnmhhmaaGreatDoor
