/-
  The walks of the law's prog, finds and awake. Conditions: the texts are short; the library's variables hold what they hold.
-/
import Derived.Test.YthdkbbkkijdhfaaGreatDoorM8
import Derived.Lib.ConvBytes
namespace Go.Proofs.YthdkbbkkijdhfaaGreatDoor
open Go.RowKit Go.Shelf Go.Maps

/-- A string turned to bytes. -/
theorem conv_facts (l : Rx.Bytes) (w : World) : ∃ c w1, (convert 9 22 (.string ⟨l.toArray⟩)).run Tryz.prog w = .ok (.slice (some ⟨w.heap.size, 0, none⟩) l.length c) w1 ∧ l.length ≤ c ∧ Below w.heap.size w w1 ∧ Bs w1 (some ⟨w.heap.size, 0, none⟩) l := by
  have hsz : (⟨l.toArray⟩ : ByteArray).size = l.length := by simp [ByteArray.size]
  have h := Lib.run_convert_string_bytes (P := Tryz.prog) w 9 22 5 ⟨l.toArray⟩ Tryz.underlying9 Tryz.underlying22 Tryz.underlying5
  rw [hsz] at h
  refine ⟨_, _, h, ?_, Lib.bytesWorld_below w 5 ⟨l.toArray⟩, fun hl => ⟨_, 0, rfl, fun i hi => ?_⟩⟩
  · exact grownCap_ge _ _ _ _
  · rw [Nat.zero_add]
    exact Lib.bytesWorld_cell w 5 ⟨l.toArray⟩ i (by rw [hsz]; exact hi)

/-- An expression that is ready, whole: its states' targets are there. -/
structure Ready (w : World) (q : Nat) (n : Rx.Nd) : Prop where
  pg : ∃ v L, Pg w q v (progOf n).1 L ∧ sts L = (progOf n).2
  len : (progOf n).2.length ≤ 1000000

theorem ready_ok (n : Rx.Nd) : Mx.LayOk [⟨4, Mx.no, 0, 0⟩] (progOf n) ∧ Mx.Kinds (progOf n).2 := by
  have hg : Mx.Good [⟨4, Mx.no, 0, 0⟩] := fun s hs => by
    obtain rfl : s = ⟨4, Mx.no, 0, 0⟩ := by simpa using hs
    exact ⟨by simp, by simp⟩
  exact ⟨Mx.lay_ok n 0 _ hg (by simp), Mx.lay_kinds n 0 _ fun s hs => by
    obtain rfl : s = ⟨4, Mx.no, 0, 0⟩ := by simpa using hs
    exact Nat.le_refl _⟩

theorem Ready.kept {w w' : World} {q : Nat} {n : Rx.Nd} (h : Ready w q n) (hk : Below w.heap.size w w') : Ready w' q n := by
  obtain ⟨v, L, hpg, e⟩ := h.pg
  exact ⟨⟨v, L, hpg.kept (Kept.of_below (S := fun _ => False) hk) fun b hb => hb.elim, e⟩, h.len⟩

/-- Find, of an expression that is ready. -/
theorem find_ready (q bc : Nat) (n : Rx.Nd) (from_ : Int) (b : Rx.Bytes) (bp : Option Addr) (w : World) (h : Ready w q n) (hbs : Bs w bp b) (hbl : b.length ≤ 1000000000) :
    Calls Tryz.prog 13 #[.pointer (some ⟨q, 0, none⟩), .slice bp b.length bc, .int .i64 from_] w fun e w' => e = .returned (findVal (Mx.find (progOf n).2 (progOf n).1 b from_.toNat)) ∧ Below w.heap.size w w' := by
  obtain ⟨v, L, hpg, e⟩ := h.pg
  have hl := h.len
  obtain ⟨hok, hkd⟩ := ready_ok n
  have hlt := hok.lt
  rw [← e] at hl hkd hlt ⊢
  rw [sts_len] at hl hlt
  have hgo := hok.good
  rw [← e] at hgo
  exact Find_any q _ bc from_ v L b bp w hpg hgo hkd hl hlt hbs hbl

set_option maxHeartbeats 1600000 in
set_option maxRecDepth 100000 in
theorem finds_any (q : Nat) (n : Rx.Nd) (from_ a z : Int) (is : Bool) (b : Rx.Bytes) (w : World) (h : Ready w q n) (hbl : b.length ≤ 1000000000) (hx : findVal (Mx.find (progOf n).2 (progOf n).1 b from_.toNat) = .tuple #[.int .i64 a, .int .i64 z, .bool is]) :
    Calls Tryz.prog 28 #[.pointer (some ⟨q, 0, none⟩), .string ⟨b.toArray⟩, .int .i64 from_, .int .i64 a, .int .i64 z, .bool is] w fun e w' => e = .returned (.bool true) ∧ Below w.heap.size w w' := by
  obtain ⟨c1, w2, hc1, hl1, hb2, hs1⟩ := conv_facts b w
  have hfind := find_ready q c1 n from_ b _ w2 (h.kept hb2) hs1 hbl
  rw [hx] at hfind
  have HB := Lib.hid hb2
  clear h hs1 hb2 hx
  go_enter Tryz.func28, Tryz.ntmps28
  go_wp2_with fail
  refine hfind.mono ?_
  rintro e w3 ⟨rfl, hb3⟩
  have HB3 : Hid (Below w.heap.size w w3) := HB.out.trans (hb3.mono HB.out.size)
  clear hb3 hfind hc1
  go_wp2_with fail
  go_ret
  exact ⟨rfl, HB3.out⟩

/-- Does an expression find what it is told to? -/
def chk (s : Rx.Bytes) (ext fold : Bool) (b : Rx.Bytes) (from_ : Nat) (x : Option (Nat × Nat)) : Bool := match Rx.read s ext fold with
  | none => false
  | some n => decide (n.size ≤ 10000) && (decide ((progOf n).2.length ≤ 1000000) && (Mx.find (progOf n).2 (progOf n).1 b from_ == x))

theorem chk1 : chk [97, 124, 97, 98] true false [120, 97, 98] 0 (some (1, 3)) = true := by decide +kernel
theorem chk2 : chk [98, 42] false false [97, 98, 98] 0 (some (0, 0)) = true := by decide +kernel
theorem chk3 : chk [98, 42] false false [97, 98, 98] 1 (some (1, 3)) = true := by decide +kernel
theorem chk4 : chk [94, 97] false false [97, 97] 1 none = true := by decide +kernel

theorem chk_some {s : Rx.Bytes} {ext fold : Bool} {b : Rx.Bytes} {from_ : Nat} {x : Option (Nat × Nat)} (h : chk s ext fold b from_ x = true) : ∃ n, Rx.read s ext fold = some n ∧ n.size ≤ 10000 ∧ (progOf n).2.length ≤ 1000000 ∧ Mx.find (progOf n).2 (progOf n).1 b from_ = x := by
  unfold chk at h
  cases hr : Rx.read s ext fold with
  | none => rw [hr] at h; cases h
  | some n =>
    rw [hr] at h
    simp only [Bool.and_eq_true, decide_eq_true_eq, beq_iff_eq] at h
    exact ⟨n, rfl, h.1, h.2.1, h.2.2⟩

set_option maxRecDepth 100000 in
theorem prog_any (s : Rx.Bytes) (ext fold : Bool) (n : Rx.Nd) (w : World) (hg : Glo w) (h8 : 8 ≤ w.heap.size) (hl : s.length < 1073741824) (hr : Rx.read s ext fold = some n) (hs : n.size ≤ 10000) (hp : (progOf n).2.length ≤ 1000000) :
    Calls Tryz.prog 11 #[.string ⟨s.toArray⟩, .bool ext, .bool fold] w fun e w' => (∃ q, e = .returned (.pointer (some ⟨q, 0, none⟩)) ∧ Ready w' q n) ∧ Below w.heap.size w w' := by
  have hc := Parse_any s ext fold w hg h8 hl
  rw [hr] at hc
  unfold ParsePost at hc
  simp only [if_neg (Nat.not_lt.2 hs)] at hc
  have HP := Lib.hid hp
  clear hs hp hr
  go_enter Tryz.func11, Tryz.ntmps11
  go_wp2_with fail
  refine hc.mono ?_
  rintro e w1 ⟨⟨r, rfl, hre⟩, b1⟩
  have hnew := New_any w.heap.size r n w1 hre HP.out
  have B1 := Lib.hid b1
  clear hre b1 hc
  go_wp2_with fail
  refine hnew.mono ?_
  rintro e w2 ⟨⟨rfl, v, L, hpg, he⟩, b2⟩
  have B2 : Hid (Below w.heap.size w w2) := B1.out.trans (b2.mono B1.out.size)
  have HR : Hid (Ready w2 w1.heap.size n) := ⟨⟨v, L, hpg, he⟩, HP.out⟩
  clear hpg he b2 hnew
  go_wp2_with fail
  go_ret
  exact ⟨⟨_, rfl, HR.out⟩, B2.out⟩

/-- An example of the chapter's: the expression is made ready and looked for. -/
theorem eg {s : Rx.Bytes} {ext fold : Bool} {b : Rx.Bytes} {from_ : Nat} {x : Option (Nat × Nat)} {a z : Int} {is : Bool} (h : chk s ext fold b from_ x = true) (hl : s.length < 1073741824) (hbl : b.length ≤ 1000000000) (hv : findVal x = .tuple #[.int .i64 a, .int .i64 z, .bool is]) :
    ∃ n : Rx.Nd, (∀ w, Glo w → 8 ≤ w.heap.size → Calls Tryz.prog 11 #[.string ⟨s.toArray⟩, .bool ext, .bool fold] w fun e w' => (∃ q, e = .returned (.pointer (some ⟨q, 0, none⟩)) ∧ Ready w' q n) ∧ Below w.heap.size w w') ∧
      ∀ w q, Ready w q n → Calls Tryz.prog 28 #[.pointer (some ⟨q, 0, none⟩), .string ⟨b.toArray⟩, .int .i64 from_, .int .i64 a, .int .i64 z, .bool is] w fun e w' => e = .returned (.bool true) ∧ Below w.heap.size w w' := by
  obtain ⟨n, hr, hs, hp, hx⟩ := chk_some h
  refine ⟨n, fun w hg h8 => prog_any s ext fold n w hg h8 hl hr hs hp, fun w q hq => finds_any q n from_ a z is b w hq hbl ?_⟩
  rw [Int.toNat_natCast, hx, hv]

set_option maxHeartbeats 3200000 in
set_option maxRecDepth 100000 in
theorem awake16_any (w : World) (hg : Glo w) (h8 : 8 ≤ w.heap.size) :
    Calls Tryz.prog 8 #[] w fun e w' => e = .returned (.bool true) ∧ Below w.heap.size w w' := by
  obtain ⟨n1, p1, f1⟩ := eg (a := 1) (z := 3) (is := true) chk1 (by decide) (by decide) rfl
  obtain ⟨n2, p2, f2⟩ := eg (a := 0) (z := 0) (is := true) chk2 (by decide) (by decide) rfl
  obtain ⟨n3, p3, f3⟩ := eg (a := 1) (z := 3) (is := true) chk3 (by decide) (by decide) rfl
  obtain ⟨n4, p4, f4⟩ := eg (a := 0) (z := 0) (is := false) chk4 (by decide) (by decide) rfl
  go_enter Tryz.func8, Tryz.ntmps8
  go_wp2_with fail
  refine (p1 w hg h8).mono ?_
  rintro e w1 ⟨⟨q1, rfl, r1⟩, b1⟩
  obtain ⟨g1, i1⟩ := hg.step h8 b1
  have y1 := f1 w1 q1 r1
  clear p1 f1 r1
  go_wp2_with fail
  refine y1.mono ?_
  rintro e w2 ⟨rfl, b2⟩
  obtain ⟨g2, i2⟩ := g1.step i1 b2
  have d2 := b1.trans (b2.mono b1.size)
  clear y1 b1 b2 g1 i1
  go_wp2_with fail
  refine (p2 w2 g2 i2).mono ?_
  rintro e w3 ⟨⟨q3, rfl, r3⟩, b3⟩
  obtain ⟨g3, i3⟩ := g2.step i2 b3
  have d3 := d2.trans (b3.mono d2.size)
  have y3 := f2 w3 q3 r3
  clear p2 f2 r3 b3 d2 g2 i2
  go_wp2_with fail
  refine y3.mono ?_
  rintro e w4 ⟨rfl, b4⟩
  obtain ⟨g4, i4⟩ := g3.step i3 b4
  have d4 := d3.trans (b4.mono d3.size)
  clear y3 b4 d3 g3 i3
  go_wp2_with fail
  refine (p3 w4 g4 i4).mono ?_
  rintro e w5 ⟨⟨q5, rfl, r5⟩, b5⟩
  obtain ⟨g5, i5⟩ := g4.step i4 b5
  have d5 := d4.trans (b5.mono d4.size)
  have y5 := f3 w5 q5 r5
  clear p3 f3 r5 b5 d4 g4 i4
  go_wp2_with fail
  refine y5.mono ?_
  rintro e w6 ⟨rfl, b6⟩
  obtain ⟨g6, i6⟩ := g5.step i5 b6
  have d6 := d5.trans (b6.mono d5.size)
  clear y5 b6 d5 g5 i5
  go_wp2_with fail
  refine (p4 w6 g6 i6).mono ?_
  rintro e w7 ⟨⟨q7, rfl, r7⟩, b7⟩
  have d7 := d6.trans (b7.mono d6.size)
  have y7 := f4 w7 q7 r7
  clear p4 f4 r7 b7 d6 g6 i6
  go_wp2_with fail
  refine y7.mono ?_
  rintro e w8 ⟨rfl, b8⟩
  have d8 := d7.trans (b8.mono d7.size)
  clear y7 b8 d7
  go_wp2_with fail
  go_ret
  exact ⟨rfl, d8⟩

end Go.Proofs.YthdkbbkkijdhfaaGreatDoor
