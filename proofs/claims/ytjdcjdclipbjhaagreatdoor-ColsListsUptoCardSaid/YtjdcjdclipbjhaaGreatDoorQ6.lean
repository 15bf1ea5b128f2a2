/-
  Texts of this seat put together: T3, P1, K1, K2, K3, K4, K5, K6, K7, K8, C0.
-/
import Derived.Test.YtjdcjdclipbjhaaGreatDoorQ5
import Derived.Maps.OwnSet
import Derived.ChangeMaps
import Derived.Deep.QuietTactic

/-
  The walks of tree.New and of tree.Load of no nodes. No condition.
-/
namespace Go.Proofs.YtjdcjdclipbjhaaGreatDoor
open Go.RowKit

/-- A tree that has the root alone: its block, the root's, the map of its names, the map of files. -/
def TreeAt (W : World) (t r a b : Nat) : Prop :=
  Blk W t #[.pointer (some ⟨r, 0, none⟩), .map (some b), .int .i64 2, .int .i64 0] 196 ∧
  Blk W r #[.int .i64 1, .int .i64 493, .int .i64 0, .bool true, .slice none 0 0, .map (some a), .pointer (some ⟨r, 0, none⟩), .int .i64 0, .int .i64 0] 205 ∧
  W.heap[a]? = some (.map #[] 0) ∧ W.heap[b]? = some (.map #[] 0)

theorem lt_of_heap {W : World} {k : Nat} {o : Obj} (h : W.heap[k]? = some o) : k < W.heap.size := (Array.getElem?_eq_some_iff.1 h).1
theorem TreeAt.keep {W W' : World} {t r a b B : Nat} (h : TreeAt W t r a b) (hb : Below B W W') (h1 : t < B) (h2 : r < B) (h3 : a < B) (h4 : b < B) : TreeAt W' t r a b :=
  ⟨h.1.keep hb h1, h.2.1.keep hb h2, (hb.block a h3).trans h.2.2.1, (hb.block b h4).trans h.2.2.2⟩
theorem TreeAt.below {W W' : World} {t r a b : Nat} (h : TreeAt W t r a b) (hb : Below W.heap.size W W') : TreeAt W' t r a b :=
  h.keep hb h.1.lt h.2.1.lt (lt_of_heap h.2.2.1) (lt_of_heap h.2.2.2)
theorem TreeAt.root {W : World} {t r a b : Nat} (h : TreeAt W t r a b) : RootAt W t r ∧ rootStat W r :=
  ⟨⟨h.1.cell 0 rfl, h.2.1.cell 3 rfl⟩, ⟨_, _, _, h.2.1.cell 0 rfl, h.2.1.cell 1 rfl, h.2.1.cell 2 rfl, h.2.1.cell 4 rfl⟩⟩

set_option maxRecDepth 100000 in
set_option maxHeartbeats 2000000 in
theorem new_any (w : World) :
    Calls Tryz.prog 132 #[] w fun e w' => e = .returned (.pointer (some ⟨w.heap.size + 1 + 1 + 1, 0, none⟩)) ∧ TreeAt w' (w.heap.size + 1 + 1 + 1) (w.heap.size + 1) w.heap.size (w.heap.size + 1 + 1) ∧ Below w.heap.size w w' := by
  have hmm := @run_makeMap Tryz.prog
  go_enter Tryz.func132, Tryz.ntmps132
  go_wp2_with fail
  go_ret
  have k1 := heap_alloc_new w (.map #[] 0)
  refine ⟨rfl, ⟨?_, ?_, ?_, ?_⟩, ?_⟩
  · have := Blk.new (((w.alloc (.map #[] 0)).alloc (.cells #[.int .i64 1, .int .i64 493, .int .i64 0, .bool true, .slice none 0 0, .map (some w.heap.size), .pointer (some ⟨w.heap.size + 1, 0, none⟩), .int .i64 0, .int .i64 0] 205)).alloc (.map #[] 0)) #[.pointer (some ⟨w.heap.size + 1, 0, none⟩), .map (some (w.heap.size + 1 + 1)), .int .i64 2, .int .i64 0] 196
    simpa only [World.size_alloc] using this
  · have := Blk.new (w.alloc (.map #[] 0)) #[.int .i64 1, .int .i64 493, .int .i64 0, .bool true, .slice none 0 0, .map (some w.heap.size), .pointer (some ⟨w.heap.size + 1, 0, none⟩), .int .i64 0, .int .i64 0] 205
    simp only [World.size_alloc] at this
    exact (this.alloc _).alloc _
  · exact (Below.heap_alloc _ _ _ (by simp; omega)).trans ((Below.heap_alloc _ _ _ (by simp; omega)).trans ((Below.heap_alloc _ _ _ (by simp)).trans k1))
  · have := heap_alloc_new ((w.alloc (.map #[] 0)).alloc (.cells #[.int .i64 1, .int .i64 493, .int .i64 0, .bool true, .slice none 0 0, .map (some w.heap.size), .pointer (some ⟨w.heap.size + 1, 0, none⟩), .int .i64 0, .int .i64 0] 205)) (.map #[] 0)
    simp only [World.size_alloc] at this
    exact (Below.heap_alloc _ _ _ (by simp)).trans this
  · exact ((((Below.refl _ w).alloc (Nat.le_refl _) _).alloc (by simp) _).alloc (by simp; omega) _).alloc (by simp; omega) _

set_option maxRecDepth 100000 in
set_option maxHeartbeats 2000000 in
theorem load_none (w : World) :
    Calls Tryz.prog 75 #[.slice none 0 0] w fun e w' => ∃ t r a b, e = .returned (.tuple #[.pointer (some ⟨t, 0, none⟩), .int .i64 0]) ∧ TreeAt w' t r a b ∧ w.heap.size ≤ t ∧ w.heap.size ≤ r ∧ w.heap.size ≤ a ∧ w.heap.size ≤ b ∧ Below w.heap.size w w' := by
  have hmm := @run_makeMap Tryz.prog
  go_enter Tryz.func75, Tryz.ntmps75
  go_wp2_with fail
  refine (new_any w).mono ?_
  rintro e w1 ⟨rfl, ht, hb⟩
  go_wp2_with fail
  go_loopw [16] (fun p wr => p = .int .i64 0 ∧ wr = w1.alloc (.map #[] 0)) (fun _ _ => 0)
  case atStart => exact ⟨rfl, rfl⟩
  case round =>
    obtain ⟨rfl, rfl⟩ := hrel
    go_wp2_with fail
    go_ret2
    refine ⟨_, _, _, _, rfl, ht.below ((Below.refl _ _).alloc (Nat.le_refl _) _), ?_, ?_, ?_, ?_, hb.alloc hb.size _⟩ <;> omega

end Go.Proofs.YtjdcjdclipbjhaaGreatDoor

/-
  The walk of proc.may at a job of no nodes. Condition: Cwd is empty.
-/
namespace Go.Proofs.YtjdcjdclipbjhaaGreatDoor
open Go.RowKit

/-- A job without environment, nodes, faults, picks. -/
def jobV (args inp : Value) (buf line run : Int) : Value := .agg #[args, .slice none 0 0, .string ⟨#[]⟩, inp, .slice none 0 0, .int .i64 buf, .int .i64 line, .int .i64 run, .slice none 0 0, .int .i64 0, .slice none 0 0]

set_option maxRecDepth 100000 in
set_option maxHeartbeats 2000000 in
theorem may_yes (pa : Option Addr) (na ca : Nat) (pi : Option Addr) (ni ci : Nat) (buf line run : Int) (m : Int) (w : World) (hna : 1 ≤ na) (h1 : 1 ≤ buf) (h2 : 1 ≤ line) (h3 : line ≤ run) (h4 : run ≤ 1099511627776) (h5 : buf ≤ 1099511627776) (hm : w.cell? ⟨0, 0, none⟩ = some (.int .i64 m)) :
    Calls Tryz.prog 42 #[jobV (.slice pa na ca) (.slice pi ni ci) buf line run] w fun e w' => ∃ t r a b, e = .returned (.tuple #[.pointer (some ⟨t, 0, none⟩), .bool true]) ∧ TreeAt w' t r a b ∧ w.heap.size ≤ t ∧ w.heap.size ≤ r ∧ w.heap.size ≤ a ∧ w.heap.size ≤ b ∧ Below w.heap.size w w' := by
  unfold jobV
  go_enter Tryz.func42, Tryz.ntmps42
  go_wp2_with fail
  refine (load_none _).mono ?_
  rintro e w1 ⟨t, r, a, b, rfl, ht, u1, u2, u3, u4, hb⟩
  have hblk : Blk w1 w.heap.size #[.slice pa na ca, .slice none 0 0, .string ⟨#[]⟩, .slice pi ni ci, .slice none 0 0, .int .i64 buf, .int .i64 line, .int .i64 run, .slice none 0 0, .int .i64 0, .slice none 0 0] 42 := (Blk.new w _ _).keep hb (by simp)
  have lm := World.block_lt_of_cell? _ _ hm
  have hb1 := below_new hb
  have hm1 := (hb1.cell (p := ⟨0, 0, none⟩) lm).trans hm
  have e0 := hblk.cell 0 rfl
  have e2 := hblk.cell 2 rfl
  have e5 := hblk.cell 5 rfl
  have e6 := hblk.cell 6 rfl
  have e7 := hblk.cell 7 rfl
  have e9 := hblk.cell 9 rfl
  have hA : decide ((na : Int) < 1) = false := by simp; omega
  have hB : decide (buf < 1) = false := by simp; omega
  have hC : decide (line < 1) = false := by simp; omega
  have hD : decide (run < line) = false := by simp; omega
  have hE : decide (1099511627776 < max buf run) = false := by simp; omega
  have hst := stat_root t r m w1 ht.root.1 ht.root.2 hm1
  simp only [World.size_alloc] at u1 u2 u3 u4
  clear hblk hm hna h1 h2 h3 h4 h5 hb
  go_wp2_with fail
  rw [show ((⟨#[47]⟩ : ByteArray) ++ ⟨#[]⟩) = ⟨#[47]⟩ from rfl]
  refine hst.mono ?_
  rintro e w2 ⟨⟨i, md, tk, sz, lk, rfl⟩, hb2⟩
  clear hst e0 e2 e5 e6 e7 e9
  go_wp2_with fail
  have ht2 := ht.below hb2
  have hb3 := hb1.trans (hb2.mono hb1.size)
  obtain ⟨w3, hw3⟩ : ∃ w3, w2.alloc (.cells #[.int .i64 i, .bool true, .int .i64 md, .int .i64 tk, .int .i64 sz, .int .i64 lk] 157) = w3 := ⟨_, rfl⟩
  have hblk3 : Blk w3 w2.heap.size #[.int .i64 i, .bool true, .int .i64 md, .int .i64 tk, .int .i64 sz, .int .i64 lk] 157 := by rw [← hw3]; exact Blk.new _ _ _
  have q1 := hblk3.cell 1 rfl
  have ht3 : TreeAt w3 t r a b := by rw [← hw3]; exact ht2.below ((Below.refl _ _).alloc (Nat.le_refl _) _)
  have hb4 : Below w.heap.size w w3 := by rw [← hw3]; exact hb3.alloc hb3.size _
  try rw [hw3]
  go_region
  go_wp2_with fail
  go_ret2
  refine ⟨t, r, a, b, rfl, ⟨Blk.drew ht3.1, Blk.drew ht3.2.1, ht3.2.2.1, ht3.2.2.2⟩, ?_, ?_, ?_, ?_, hb4.drew⟩ <;> omega

end Go.Proofs.YtjdcjdclipbjhaaGreatDoor

/-
  The walks of kern.New without faults and of Table. No condition.
-/
namespace Go.Proofs.YtjdcjdclipbjhaaGreatDoor
open Go.RowKit

set_option maxRecDepth 100000 in
theorem faults_nil (w : World) : Calls Tryz.prog 77 #[.slice none 0 0] w fun e w' => e = .returned (.slice none 0 0) ∧ w' = w := by
  have q24 : ∀ (w : World) (a : Option Addr) (n c n' c' : Nat), (binOp .eql 39 (.slice a n c) (.slice none n' c')).run Tryz.prog w = .ok (.bool a.isNone) w := fun w a n c n' c' => Lib.run_eql_slice_nil w _ _ a n c n' c' Tryz.underlying39
  go_enter Tryz.func77, Tryz.ntmps77
  go_wp2_with fail
  go_ret
  exact ⟨rfl, rfl⟩

/-- A kernel: its tree, how many things there were, the map of things. -/
def KernAt (W : World) (k t : Nat) (last : Int) (m : Nat) : Prop :=
  Blk W k #[.pointer (some ⟨t, 0, none⟩), .int .i64 0, .slice none 0 0, .int .i64 0, .int .i64 last, .map (some m)] 168

/-- A table of descriptors. -/
def TabAt (W : World) (tb k : Nat) (v0 v1 v2 : Value) : Prop :=
  Blk W tb #[.pointer (some ⟨k, 0, none⟩), v0, v1, v2, .nilIface, .nilIface, .nilIface, .nilIface, .nilIface, .nilIface, .nilIface, .nilIface, .nilIface, .nilIface, .nilIface, .nilIface, .nilIface] 176

set_option maxRecDepth 100000 in
set_option maxHeartbeats 2000000 in
theorem kernNew_any (t : Nat) (w : World) : Calls Tryz.prog 43 #[.pointer (some ⟨t, 0, none⟩), .slice none 0 0, .int .i64 0] w fun e w' => ∃ k m, e = .returned (.pointer (some ⟨k, 0, none⟩)) ∧ KernAt w' k t 0 m ∧ w'.heap[m]? = some (.map #[] 0) ∧ w.heap.size ≤ k ∧ w.heap.size ≤ m ∧ k ≠ m ∧ Below w.heap.size w w' := by
  have hmm := @run_makeMap Tryz.prog
  go_enter Tryz.func43, Tryz.ntmps43
  go_wp2_with fail
  refine (faults_nil _).mono ?_
  rintro e w' ⟨rfl, rfl⟩
  go_wp2_with fail
  go_ret
  refine ⟨_, _, rfl, ?_, ?_, ?_, Nat.le_refl _, ?_, ((Below.refl _ _).alloc (Nat.le_refl _) _).alloc (by simp) _⟩
  · have := Blk.new (w'.alloc (.map #[] 0)) #[.pointer (some ⟨t, 0, none⟩), .int .i64 0, .slice none 0 0, .int .i64 0, .int .i64 0, .map (some w'.heap.size)] 168
    simp only [World.size_alloc] at this
    exact this
  · exact (Below.heap_alloc _ _ _ (by simp)).trans (heap_alloc_new w' _)
  · omega
  · omega

set_option maxRecDepth 100000 in
set_option maxHeartbeats 2000000 in
theorem table_any (k : Nat) (w : World) : Calls Tryz.prog 78 #[.pointer (some ⟨k, 0, none⟩)] w fun e w' => e = .returned (.pointer (some ⟨w.heap.size, 0, none⟩)) ∧ TabAt w' w.heap.size k .nilIface .nilIface .nilIface ∧ Below w.heap.size w w' := by
  go_enter Tryz.func78, Tryz.ntmps78
  go_wp2_with fail
  go_ret
  exact ⟨rfl, Blk.new _ _ _, (Below.refl _ _).alloc (Nat.le_refl _) _⟩

theorem fh : Tryz.prog.funcs[188]? = some Tryz.f188 := by kernel_rfl
set_option maxRecDepth 100000 in
set_option maxHeartbeats 2000000 in
/-- (*atomic.Int64).Add of one. -/
theorem atomicAdd (b : Nat) (off : Nat) (x : Int) (hx0 : 0 ≤ x) (hx1 : x < 1000000) (w : World) (hc : w.cell? ⟨b, off, none⟩ = some (.int .i64 x)) (hf : w.frozen? ⟨b, off, none⟩ = false) :
    Calls Tryz.prog 140 #[.pointer (some ⟨b, off, none⟩), .int .i64 1] w fun e w' => e = .returned (.int .i64 (x + 1)) ∧ w' = w.setCell ⟨b, off, none⟩ (.int .i64 (x + 1)) := by
  have hd := run_call_add (P := Tryz.prog) (f := 188) fh (by kernel_rfl) rfl (by kernel_rfl) .i64 (by kernel_rfl) (y := 1) (s := x + 1) hc hf (by simp [go_sem, IntKind.wrap_i64]; omega)
  go_enter Tryz.func140, Tryz.ntmps140
  go_wp2_with fail
  go_ret
  exact ⟨rfl, rfl⟩

end Go.Proofs.YtjdcjdclipbjhaaGreatDoor

/-
  The map of a kernel's things; the walks of add, Source, Sink. Condition: fewer things than a million.
-/
namespace Go.Proofs.YtjdcjdclipbjhaaGreatDoor
open Go.RowKit Go.Shelf Go.Maps

/-- A thing: what kind, and its block. -/
def thV (t : TypeId) (b : Nat) : Value := .iface t (.pointer (some ⟨b, 0, none⟩))
def thD (t : TypeId) (b : Nat) : DataW Unit := .agg [.lit (.int .i64 t), .lit (.int .i64 b)]
/-- How a thing reads in the map. -/
def thElem : Value → Option (DataW Unit × List MemPlace)
  | .iface t (.pointer (some ⟨b, 0, none⟩)) => some (thD t b, [])
  | .nilIface => some (.agg [], [])
  | _ => none
theorem thElem_of (t : TypeId) (b : Nat) : thElem (thV t b) = some (thD t b, []) := rfl

theorem wpList_insert_own {H : Type} {P : Program} (w : World) {ops : Array Oper} {rest : List Oper} {o : Oper} {a : Act} {Q : Exit → Act → World → Prop}
    (hg : o.guard = none) (m x v : Operand) (t : TypeId) (hop : o.op = Op.mapUpdate t m x v)
    (k e : TypeId) (K : Keyed P k) (ht : P.underlying t = some (.map k e)) (R : Value → Option (DataW H × List MemPlace)) (b n : Nat) (D : DataW H)
    (hm : a.eval m = .map (some b)) (hown : w.ownsMap P k R b n D) (hn : n < maxLen) (key val : Value) (kl : Lit) (hx : a.eval x = key) (hv : a.eval v = val) (hkey : keyOf P k key = some kl)
    (d : DataW H) (ps : List MemPlace) (hval : R val = some (d, ps))
    (hK : ∀ w', w'.ownsMap P k R b (n + 1) (D.put kl d) → w.grownBy w' (some b) → wpList P ops Q rest (a.put o.dst undef) w') :
    wpList P ops Q (o :: rest) a w := by
  refine wpList_plain hg fun K' hK' => ?_
  obtain ⟨w', hrun, r1, r2⟩ := hown.update K ht hn hkey hval
  unfold Oper.wp
  simp [execOp, hop, hm, hx, hv, hrun, Result.andThen]
  exact hK' _ _ (hK w' r1 r2)

theorem kInt : Keyed Tryz.prog 3 := Maps.int_keyed Tryz.underlying3

theorem wf_small (last : Nat) (hl : last < 1000) : (Lit.int .i64 ((last : Int) + 1)).wf = true := by
  have e : wrap64 ((last : Int) + 1) = (last : Int) + 1 := by unfold wrap64; omega
  have := wrap64_wf ((last : Int) + 1)
  generalize wrap64 ((last : Int) + 1) = z at e this
  subst e
  exact this

set_option maxRecDepth 100000 in
set_option maxHeartbeats 2000000 in
theorem add_any (k t last m : Nat) (D : DataW Unit) (ty : TypeId) (b : Nat) (w : World) (hk : KernAt w k t last m) (ho : w.ownsMap Tryz.prog 3 thElem m last D) (hl : last < 1000) (hkm : k ≠ m) :
    Calls Tryz.prog 81 #[.pointer (some ⟨k, 0, none⟩), thV ty b] w fun e w' => e = .returned (.int .i64 (last + 1 : Nat)) ∧ KernAt w' k t (last + 1 : Nat) m ∧ w'.ownsMap Tryz.prog 3 thElem m (last + 1) (D.put (.int .i64 (last + 1 : Nat)) (thD ty b)) ∧ Kept (fun j => j = k ∨ j = m) w w' := by
  have c := atomicAdd k 4 last (by omega) (by omega) w (hk.cell 4 rfl) (hk.free 4)
  obtain ⟨w1, hw1⟩ : ∃ w1, w.setCell ⟨k, 4, none⟩ (.int .i64 ((last : Int) + 1)) = w1 := ⟨_, rfl⟩
  rw [hw1] at c
  have hk1 : KernAt w1 k t (last + 1 : Nat) m := by
    rw [← hw1]
    exact Blk.set hk 4 _
  have ho1 : w1.ownsMap Tryz.prog 3 thElem m last D := by
    rw [← hw1]
    exact ho.setCell (fun e => hkm e.symm) _
  have hK1 : Kept (fun j => j = k ∨ j = m) w w1 := by
    rw [← hw1]
    exact (Kept.refl _ _).setCell (.inl (.inl rfl)) 4 _
  have q5 : w1.cell? ⟨k, 5, none⟩ = some (.map (some m)) := hk1.cell 5 rfl
  have hwf := wf_small last hl
  have hkey : keyOf Tryz.prog 3 (.int .i64 ((last : Int) + 1)) = some (.int .i64 ((last : Int) + 1)) := keyOf_int_mk Tryz.underlying3 hwf
  obtain ⟨w2, hrun, ho2, hg2⟩ := ho1.update kInt (t := 163) Tryz.underlying163 (show last < maxLen from Nat.lt_trans hl (by decide)) hkey (thElem_of ty b)
  have hk2 : KernAt w2 k t (last + 1 : Nat) m := (hg2.block k hk1.lt (by simp [hkm])).trans hk1
  have hK2 : Kept (fun j => j = k ∨ j = m) w w2 := hK1.trans ⟨hg2.os, hg2.tape, hg2.output, hg2.size, fun j hj hs => hg2.block j hj (by simp; exact fun e => hs (.inr e))⟩
  have HO := Lib.hid ho2
  have HK := Lib.hid hk2
  have HX := Lib.hid hK2
  clear ho hk ho1 hk1 hw1 ho2 hk2 hg2 hK1 hK2 hkey hwf
  unfold thV at *
  go_enter Tryz.func81, Tryz.ntmps81
  go_wp2_with fail
  refine c.mono ?_
  rintro e w3 ⟨rfl, rfl⟩
  go_wp2_with fail
  go_ret
  exact ⟨rfl, HK.out, HO.out, HX.out⟩

end Go.Proofs.YtjdcjdclipbjhaaGreatDoor

/-
  The walks of Sink, Source. Condition: fewer things than a thousand.
-/
namespace Go.Proofs.YtjdcjdclipbjhaaGreatDoor
open Go.RowKit Go.Shelf Go.Maps

set_option maxRecDepth 100000 in
set_option maxHeartbeats 2000000 in
theorem sink_any (k t last m : Nat) (D : DataW Unit) (w : World) (hk : KernAt w k t last m) (ho : w.ownsMap Tryz.prog 3 thElem m last D) (hl : last < 1000) (hkm : k ≠ m) :
    Calls Tryz.prog 48 #[.pointer (some ⟨k, 0, none⟩)] w fun e w' => e = .returned (.int .i64 (last + 1 : Nat)) ∧ KernAt w' k t (last + 1 : Nat) m ∧ w'.ownsMap Tryz.prog 3 thElem m (last + 1) (D.put (.int .i64 (last + 1 : Nat)) (thD 187 w.heap.size)) ∧ Blk w' w.heap.size #[.slice none 0 0] 188 ∧ Kept (fun j => j = k ∨ j = m) w w' := by
  have hlk := hk.lt
  have hlm := ho.lt
  obtain ⟨w1, hw1⟩ : ∃ w1, w.alloc (.cells #[.slice none 0 0] 188) = w1 := ⟨_, rfl⟩
  have hk1 : KernAt w1 k t last m := by rw [← hw1]; exact Blk.alloc hk _
  have ho1 : w1.ownsMap Tryz.prog 3 thElem m last D := by rw [← hw1]; exact ho.kept (World.grownBy_alloc _ _ none) (by simp)
  have hb1 : Blk w1 w.heap.size #[.slice none 0 0] 188 := by rw [← hw1]; exact Blk.new _ _ _
  have hK1 : Kept (fun j => j = k ∨ j = m) w w1 := by rw [← hw1]; exact (Kept.refl _ _).alloc _
  have c := add_any k t last m D 187 w.heap.size w1 hk1 ho1 hl hkm
  unfold thV at c
  have HB := Lib.hid hb1
  have HX := Lib.hid hK1
  clear hk ho hk1 ho1 hb1 hK1
  go_enter Tryz.func48, Tryz.ntmps48
  go_wp2_with fail
  try rw [hw1]
  refine c.mono ?_
  rintro e w2 ⟨rfl, hk2, ho2, hK2⟩
  have HY := Lib.hid hk2
  have HZ := Lib.hid ho2
  have HW := Lib.hid hK2
  clear hk2 ho2 hK2
  go_wp2_with fail
  go_ret
  refine ⟨rfl, HY.out, HZ.out, HB.out.kept HW.out (by rintro (h | h) <;> omega), HX.out.trans HW.out⟩

end Go.Proofs.YtjdcjdclipbjhaaGreatDoor

/-
  The walks of taken, left at a source or a sink. No condition.
-/
namespace Go.Proofs.YtjdcjdclipbjhaaGreatDoor
open Go.RowKit Go.Shelf Go.Maps

/-- A source's kind, or a sink's. -/
def Plain (t : TypeId) : Prop := t = 183 ∨ t = 187

theorem ta_out_source (v : Value) (w : World) : (Instr.typeAssert (.iface 183 v) 172 326 true).run Tryz.prog w = .ok (.tuple #[(.agg #[.pointer none]), .bool false]) w := by kernel_rfl
theorem ta_out_sink (v : Value) (w : World) : (Instr.typeAssert (.iface 187 v) 172 326 true).run Tryz.prog w = .ok (.tuple #[(.agg #[.pointer none]), .bool false]) w := by kernel_rfl
theorem ta_in_source (v : Value) (w : World) : (Instr.typeAssert (.iface 183 v) 172 329 true).run Tryz.prog w = .ok (.tuple #[(.agg #[.pointer none]), .bool false]) w := by kernel_rfl
theorem ta_in_sink (v : Value) (w : World) : (Instr.typeAssert (.iface 187 v) 172 329 true).run Tryz.prog w = .ok (.tuple #[(.agg #[.pointer none]), .bool false]) w := by kernel_rfl
theorem ta_file_source (v : Value) (w : World) : (Instr.typeAssert (.iface 183 v) 172 177 true).run Tryz.prog w = .ok (.tuple #[(.pointer none), .bool false]) w := by kernel_rfl
theorem ta_file_sink (v : Value) (w : World) : (Instr.typeAssert (.iface 187 v) 172 177 true).run Tryz.prog w = .ok (.tuple #[(.pointer none), .bool false]) w := by kernel_rfl

set_option maxRecDepth 100000 in
set_option maxHeartbeats 2000000 in
theorem taken_any (k : Option Addr) (ty : TypeId) (hty : Plain ty) (b : Nat) (w : World) : Calls Tryz.prog 138 #[.pointer k, thV ty b] w fun e w' => (∃ v, e = .returned v) ∧ w' = w := by
  unfold thV
  rcases hty with rfl | rfl
  all_goals
    have h1 := ta_out_source
    have h2 := ta_out_sink
    have h3 := ta_in_source
    have h4 := ta_in_sink
    have h5 := ta_file_source
    have h6 := ta_file_sink
    go_enter Tryz.func138, Tryz.ntmps138
    go_wp2_with fail
    refine bodyPost_end (results_none rfl _ _ _) rfl ?_
    exact ⟨⟨_, rfl⟩, rfl⟩

set_option maxRecDepth 100000 in
set_option maxHeartbeats 2000000 in
theorem left_any (k : Option Addr) (ty : TypeId) (hty : Plain ty) (b : Nat) (w : World) : Calls Tryz.prog 139 #[.pointer k, thV ty b] w fun e w' => (∃ v, e = .returned v) ∧ w' = w := by
  unfold thV
  rcases hty with rfl | rfl
  all_goals
    have h1 := ta_out_source
    have h2 := ta_out_sink
    have h3 := ta_in_source
    have h4 := ta_in_sink
    have h5 := ta_file_source
    have h6 := ta_file_sink
    go_enter Tryz.func139, Tryz.ntmps139
    go_wp2_with fail
    refine bodyPost_end (results_none rfl _ _ _) rfl ?_
    exact ⟨⟨_, rfl⟩, rfl⟩

end Go.Proofs.YtjdcjdclipbjhaaGreatDoor

/-
  The walk of Table.set, where the descriptor had nothing. Condition: the descriptor is one of sixteen.
-/
namespace Go.Proofs.YtjdcjdclipbjhaaGreatDoor
open Go.RowKit Go.Shelf Go.Maps

set_option maxRecDepth 100000 in
set_option maxHeartbeats 2000000 in
theorem set_any (tb k : Nat) (fd : Nat) (hfd : fd < 16) (ty : TypeId) (hty : Plain ty) (b : Nat) (w : World) (hk : w.cell? ⟨tb, 0, none⟩ = some (.pointer (some ⟨k, 0, none⟩))) (hc : w.cell? ⟨tb, 1 + fd, none⟩ = some .nilIface) (hf : w.frozen? ⟨tb, 1 + fd, none⟩ = false) :
    Calls Tryz.prog 80 #[.pointer (some ⟨tb, 0, none⟩), .int .i64 fd, thV ty b] w fun e w' => (∃ v, e = .returned v) ∧ w' = w.setCell ⟨tb, 1 + fd, none⟩ (thV ty b) := by
  have c := taken_any (some ⟨k, 0, none⟩) ty hty b w
  unfold thV at *
  go_enter Tryz.func80, Tryz.ntmps80
  go_wp2_with fail
  refine c.mono ?_
  rintro e w1 ⟨⟨v, rfl⟩, rfl⟩
  go_wp2_with fail
  refine bodyPost_end (results_none rfl _ _ _) rfl ?_
  exact ⟨⟨_, rfl⟩, rfl⟩

end Go.Proofs.YtjdcjdclipbjhaaGreatDoor

/-
  The walk of Table.Put. Condition: the thing is there, a source or a sink; the descriptor had nothing.
-/
namespace Go.Proofs.YtjdcjdclipbjhaaGreatDoor
open Go.RowKit Go.Shelf Go.Maps

theorem thElem_inv {v : Value} {t : TypeId} {b : Nat} {ps : List MemPlace} (h : thElem v = some (thD t b, ps)) : v = thV t b := by
  unfold thElem at h
  split at h
  · simp only [thD, Option.some.injEq, Prod.mk.injEq, DataW.agg.injEq, List.cons.injEq, DataW.lit.injEq, Lit.int.injEq, true_and, and_true] at h
    obtain ⟨⟨h1, h2⟩, -⟩ := h
    obtain rfl := Int.ofNat.inj h1
    obtain rfl := Int.ofNat.inj h2
    rfl
  · simp [thD] at h
  · cases h

set_option maxRecDepth 100000 in
set_option maxHeartbeats 2000000 in
theorem put_any (tb k t last m : Nat) (D : DataW Unit) (fd : Nat) (hfd : fd < 16) (n : Nat) (hn : n < 1000) (ty : TypeId) (hty : Plain ty) (b : Nat) (w : World) (hkn : KernAt w k t last m) (ho : w.ownsMap Tryz.prog 3 thElem m last D)
    (hat : D.atKey (.int .i64 (n + 1 : Nat)) (.agg []) = thD ty b) (hhas : Maps.has D (.int .i64 (n + 1 : Nat)) = true)
    (hk : w.cell? ⟨tb, 0, none⟩ = some (.pointer (some ⟨k, 0, none⟩))) (hc : w.cell? ⟨tb, 1 + fd, none⟩ = some .nilIface) (hf : w.frozen? ⟨tb, 1 + fd, none⟩ = false) :
    Calls Tryz.prog 46 #[.pointer (some ⟨tb, 0, none⟩), .int .i64 fd, .int .i64 ((n : Int) + 1)] w fun e w' => (∃ v, e = .returned v) ∧ w' = w.setCell ⟨tb, 1 + fd, none⟩ (thV ty b) := by
  have hkey : keyOf Tryz.prog 3 (.int .i64 ((n : Int) + 1)) = some (.int .i64 ((n : Int) + 1)) := keyOf_int_mk Tryz.underlying3 (wf_small n hn)
  obtain ⟨v, ps, hrun, hv⟩ := ho.look_ok kInt (t := 163) Tryz.underlying163 (z := .nilIface) (by kernel_rfl) (zd := .agg []) (zp := []) rfl hkey
  rw [show ((n : Int) + 1) = ((n + 1 : Nat) : Int) from rfl, hat] at hv
  rw [show ((n : Int) + 1) = ((n + 1 : Nat) : Int) from rfl, hhas, show (((n + 1 : Nat) : Int)) = (n : Int) + 1 from rfl] at hrun
  obtain rfl := thElem_inv hv
  have c := set_any tb k fd hfd ty hty b w hk hc hf
  have q5 : w.cell? ⟨k, 5, none⟩ = some (.map (some m)) := hkn.cell 5 rfl
  have h5 := ta_file_source
  have h6 := ta_file_sink
  clear hkn ho hv hat hhas hkey hc hf
  unfold thV at *
  rcases hty with rfl | rfl
  all_goals
    go_enter Tryz.func46, Tryz.ntmps46
    go_wp2_with fail
    refine c.mono ?_
    rintro e w1 ⟨⟨v, rfl⟩, rfl⟩
    go_wp2_with fail
    go_ret
    exact ⟨⟨_, rfl⟩, rfl⟩

end Go.Proofs.YtjdcjdclipbjhaaGreatDoor

/-
  The walks of bytes.Clone, Source and Said. Conditions: fewer things than a thousand; lengths below 2^47.
-/
namespace Go.Proofs.YtjdcjdclipbjhaaGreatDoor
open Go.RowKit Go.Shelf Go.Maps

/-- Bytes that a slice's value leads to, in a block of some kind. -/
def Sl (w : World) (N : Nat → Prop) (v : Value) (xs : Bts) : Prop :=
  (xs = [] ∧ v = .slice none 0 0) ∨ ∃ g o c, v = .slice (some ⟨g, o, none⟩) xs.length c ∧ xs.length ≤ c ∧ g < w.heap.size ∧ N g ∧ ∀ i, i < xs.length → w.cell? ⟨g, o + i, none⟩ = some (.int .u8 (xs.getD i 0).toNat)

theorem Sl.nil (w : World) (N : Nat → Prop) : Sl w N (.slice none 0 0) [] := .inl ⟨rfl, rfl⟩
theorem Sl.mono {w : World} {N M : Nat → Prop} {v : Value} {xs : Bts} (h : Sl w N v xs) (hM : ∀ g, g < w.heap.size → N g → M g) : Sl w M v xs := by
  rcases h with h | ⟨g, o, c, h1, h2, h3, h4, h5⟩
  · exact .inl h
  · exact .inr ⟨g, o, c, h1, h2, h3, hM g h3 h4, h5⟩
theorem Sl.kept {w w' : World} {N S : Nat → Prop} {v : Value} {xs : Bts} (h : Sl w N v xs) (hk : Kept S w w') (hS : ∀ g, g < w.heap.size → N g → ¬ S g) : Sl w' N v xs := by
  rcases h with h | ⟨g, o, c, h1, h2, h3, h4, h5⟩
  · exact .inl h
  · exact .inr ⟨g, o, c, h1, h2, Nat.lt_of_lt_of_le h3 hk.size, h4, fun i hi => (World.cell?_of_block (hk.block g h3 (hS g h3 h4))).trans (h5 i hi)⟩
theorem Sl.below {w w' : World} {N : Nat → Prop} {v : Value} {xs : Bts} (h : Sl w N v xs) (hb : Below w.heap.size w w') : Sl w' N v xs := h.kept (Kept.of_below (S := fun _ => False) hb) fun _ _ _ => id
/-- .. where the block is known to be old. -/
theorem Sl.mono' {w w0 : World} {N M : Nat → Prop} {v : Value} {xs : Bts} (h : Sl w N v xs) (h0 : Sl w0 N v xs) (hM : ∀ g, g < w0.heap.size → N g → M g) : Sl w M v xs := by
  rcases h with h | ⟨g, o, c, h1, h2, h3, h4, h5⟩
  · exact .inl h
  · rcases h0 with h0 | ⟨g', o', c', e1, e2, e3, e4, e5⟩
    · exact .inl h0
    · rw [h1] at e1
      injection e1 with e1
      injection e1 with e1
      injection e1 with e1
      subst e1
      exact .inr ⟨g, o, c, h1, h2, h3, hM g e3 h4, h5⟩
theorem Sl.bs {w : World} {N : Nat → Prop} {v : Value} {xs : Bts} (h : Sl w N v xs) : ∃ p c, v = .slice p xs.length c ∧ Bs w p xs ∧ xs.length ≤ c := by
  rcases h with ⟨rfl, rfl⟩ | ⟨g, o, c, h1, h2, h3, h4, h5⟩
  · exact ⟨none, 0, rfl, Bs.nil _ _, Nat.le_refl _⟩
  · exact ⟨_, c, h1, fun _ => ⟨g, o, rfl, h5⟩, h2⟩
theorem Sl.own {w : World} {B : Nat} {v : Value} {xs : Bts} (h : w.ownsRow B 5 1 v xs.length (xs.map u8V)) : Sl w (fun g => B ≤ g ∧ v.ownBlock = some g) v xs := by
  rcases h.2 with ⟨h1, h2⟩ | ⟨g, cap, cs, rfl, hg, hb, hcap, -⟩
  · exact .inl ⟨List.eq_nil_of_length_eq_zero h2, h1⟩
  · refine .inr ⟨g, 0, cap, rfl, hcap, lt_of_block hb, ⟨hg, rfl⟩, fun i hi => ?_⟩
    have := h.cellAt i (by omega)
    rw [Nat.zero_add, this]
    simp [List.getD_eq_getElem?_getD, hi, u8V]

theorem getD_take (xs : Bts) (n i : Nat) (h : i < n) : (xs.take n).getD i 0 = xs.getD i 0 := by
  simp [List.getD_eq_getElem?_getD, h]
theorem getD_drop (xs : Bts) (n i : Nat) : (xs.drop n).getD i 0 = xs.getD (n + i) 0 := by
  simp [List.getD_eq_getElem?_getD, List.getElem?_drop]
/-- A part of what a slice leads to. -/
theorem Sl.part {w : World} {N : Nat → Prop} {g o c : Nat} {xs : Bts} (hc : ∀ i, i < xs.length → w.cell? ⟨g, o + i, none⟩ = some (.int .u8 (xs.getD i 0).toNat)) (hg : g < w.heap.size) (hN : N g) (a n : Nat) (han : a + n ≤ xs.length) (hcap : n ≤ c) :
    Sl w N (.slice (some ⟨g, o + a, none⟩) n c) ((xs.drop a).take n) := by
  have hl : ((xs.drop a).take n).length = n := by simp; omega
  refine .inr ⟨g, o + a, c, by rw [hl], by rw [hl]; exact hcap, hg, hN, fun i hi => ?_⟩
  rw [hl] at hi
  rw [getD_take _ _ _ hi, getD_drop, Nat.add_assoc]
  exact hc (a + i) (by omega)

/-- A source. -/
def SrcAt (W : World) (N : Nat → Prop) (b : Nat) (inp : Bts) : Prop := ∃ v, Blk W b #[v] 186 ∧ Sl W N v inp

/-- bytes.Clone of any bytes. -/
theorem clone_bytes (q : Option Addr) (xs : Bts) (c : Nat) (w : World) (hx : Bs w q xs) (hbig : xs.length ≤ 140737488355328) :
    Calls Tryz.prog 82 #[.slice q xs.length c] w fun e w' => ∃ v', e = .returned v' ∧ w'.ownsRow w.heap.size 5 1 v' xs.length (xs.map u8V) ∧ Below w.heap.size w w' := by
  have hmap : (nums xs).map (Value.int .u8) = xs.map u8V := by
    unfold nums
    rw [List.map_map]
    rfl
  cases q with
  | none =>
    have h0 : xs.length = 0 := by
      rcases Nat.eq_zero_or_pos xs.length with h | h
      · exact h
      · obtain ⟨b, o, e, -⟩ := hx h
        cases e
    obtain rfl : xs = [] := List.eq_nil_of_length_eq_zero h0
    refine (Any.bytes_Clone_nil Tryz.laysSlK4 0 c w).mono ?_
    rintro e w' ⟨rfl, rfl⟩
    exact ⟨_, rfl, World.ownsRow_nil _ _ _ _, Below.refl _ _⟩
  | some a =>
    refine (Any.bytes_Clone_at Tryz.laysSlK4 a xs.length c (nums xs) w (nums_length xs) hbig fun i hi => ?_).mono ?_
    · obtain ⟨b, o, e, hc⟩ := hx (by omega)
      obtain rfl := Option.some.inj e
      rw [nums_getD xs i hi]
      rw [show ((⟨b, o, none⟩ : Addr).add i) = ⟨b, o + i, none⟩ by simp only [Addr.add]; split <;> simp_all]
      exact hc i hi
    · rintro e w' ⟨v', rfl, hown, -, hb⟩
      rw [hmap] at hown
      exact ⟨v', rfl, hown, hb⟩

theorem map_same {w w' : World} {m n : Nat} {D : DataW Unit} (h : w.ownsMap Tryz.prog 3 thElem m n D) (e : w'.heap[m]? = w.heap[m]?) : w'.ownsMap Tryz.prog 3 thElem m n D := by
  obtain ⟨es, clock, hb, F, hs, hD⟩ := h
  exact ⟨es, clock, e.trans hb, F, hs, hD⟩

set_option maxRecDepth 100000 in
set_option maxHeartbeats 2000000 in
theorem source_any (k t last m : Nat) (D : DataW Unit) (q : Option Addr) (xs : Bts) (c : Nat) (w : World) (hk : KernAt w k t last m) (ho : w.ownsMap Tryz.prog 3 thElem m last D) (hl : last < 1000) (hkm : k ≠ m) (hx : Bs w q xs) (hbig : xs.length ≤ 140737488355328) :
    Calls Tryz.prog 47 #[.pointer (some ⟨k, 0, none⟩), .slice q xs.length c] w fun e w' => ∃ b, e = .returned (.int .i64 (last + 1 : Nat)) ∧ KernAt w' k t (last + 1 : Nat) m ∧ w'.ownsMap Tryz.prog 3 thElem m (last + 1) (D.put (.int .i64 (last + 1 : Nat)) (thD 183 b)) ∧ SrcAt w' (fun g => w.heap.size ≤ g ∧ g < b) b xs ∧ w.heap.size ≤ b ∧ Kept (fun j => j = k ∨ j = m) w w' := by
  have hlk := hk.lt
  have hlm := ho.lt
  have cc := clone_bytes q xs c w hx hbig
  clear hx
  go_enter Tryz.func47, Tryz.ntmps47
  go_wp2_with fail
  refine cc.mono ?_
  rintro e w0 ⟨v', rfl, hown, hb0⟩
  have hsl := (Sl.own hown).mono (M := fun g => w.heap.size ≤ g ∧ g < w0.heap.size) fun g hg h => ⟨h.1, hg⟩
  obtain ⟨q', c', hv', -⟩ := hsl.bs
  obtain ⟨w1, hw1⟩ : ∃ w1, w0.alloc (.cells #[v'] 186) = w1 := ⟨_, rfl⟩
  have hb1 : Below w.heap.size w w1 := by rw [← hw1]; exact hb0.alloc hb0.size _
  have hk1 : KernAt w1 k t last m := Blk.keep hk hb1 hlk
  have ho1 : w1.ownsMap Tryz.prog 3 thElem m last D := by
    have : w0.ownsMap Tryz.prog 3 thElem m last D := map_same ho (hb0.block m hlm)
    rw [← hw1]; exact this.kept (World.grownBy_alloc _ _ none) (by simp)
  have hblk1 : Blk w1 w0.heap.size #[v'] 186 := by rw [← hw1]; exact Blk.new _ _ _
  have hbs1 : Sl w1 (fun g => w.heap.size ≤ g ∧ g < w0.heap.size) v' xs := by rw [← hw1]; exact hsl.below ((Below.refl _ _).alloc (Nat.le_refl _) _)
  have hsz : w.heap.size ≤ w0.heap.size := hb0.size
  have ca := add_any k t last m D 183 w0.heap.size w1 hk1 ho1 hl hkm
  unfold thV at ca
  subst hv'
  have H1 := Lib.hid hb1
  have H2 := Lib.hid hblk1
  have H3 := Lib.hid hbs1
  clear hk ho hk1 ho1 hb0 hb1 hblk1 hbs1 hsl hown cc
  go_wp2_with fail
  try rw [hw1]
  refine ca.mono ?_
  rintro e w2 ⟨rfl, hk2, ho2, hK2⟩
  have HY := Lib.hid hk2
  have HZ := Lib.hid ho2
  have HW := Lib.hid hK2
  clear hk2 ho2 hK2 ca
  go_wp2_with fail
  go_ret
  exact ⟨w0.heap.size, rfl, HY.out, HZ.out, ⟨_, H2.out.kept HW.out (by rintro (h | h) <;> omega), H3.out.kept HW.out fun g hg hN => by rintro (h | h) <;> omega⟩, hsz, (Kept.of_below H1.out).trans HW.out⟩

theorem ta_sink_sink (v : Value) (w : World) : (Instr.typeAssert (.iface 187 v) 172 187 true).run Tryz.prog w = .ok (.tuple #[v, .bool true]) w := by kernel_rfl

set_option maxRecDepth 100000 in
set_option maxHeartbeats 2000000 in
/-- What a sink was told. -/
theorem said_any (k t last m : Nat) (D : DataW Unit) (n : Nat) (hn : n < 1000) (b : Nat) (q : Option Addr) (xs : Bts) (c : Nat) (w : World) (hk : KernAt w k t last m) (ho : w.ownsMap Tryz.prog 3 thElem m last D)
    (hat : D.atKey (.int .i64 (n + 1 : Nat)) (.agg []) = thD 187 b) (hb : w.cell? ⟨b, 0, none⟩ = some (.slice q xs.length c)) (hx : Bs w q xs) (hbig : xs.length ≤ 140737488355328) :
    Calls Tryz.prog 50 #[.pointer (some ⟨k, 0, none⟩), .int .i64 ((n : Int) + 1)] w fun e w' => ∃ v', e = .returned v' ∧ w'.ownsRow w.heap.size 5 1 v' xs.length (xs.map u8V) ∧ Below w.heap.size w w' := by
  have hkey : keyOf Tryz.prog 3 (.int .i64 ((n : Int) + 1)) = some (.int .i64 ((n : Int) + 1)) := keyOf_int_mk Tryz.underlying3 (wf_small n hn)
  obtain ⟨v, ps, hrun, hv⟩ := ho.lookup kInt (t := 163) Tryz.underlying163 (z := .nilIface) (by kernel_rfl) (zd := .agg []) (zp := []) rfl hkey
  rw [show ((n : Int) + 1) = ((n + 1 : Nat) : Int) from rfl, hat] at hv
  obtain rfl := thElem_inv hv
  have q5 : w.cell? ⟨k, 5, none⟩ = some (.map (some m)) := hk.cell 5 rfl
  have cc := clone_bytes q xs c w hx hbig
  have h5 := ta_sink_sink
  clear hk ho hv hat hkey hx
  unfold thV at *
  go_enter Tryz.func50, Tryz.ntmps50
  go_wp2_with fail
  refine cc.mono ?_
  rintro e w1 ⟨v', rfl, hown, hb1⟩
  have H1 := Lib.hid hown
  have H2 := Lib.hid hb1
  clear hown hb1 cc
  go_wp2_with fail
  go_ret
  exact ⟨_, rfl, H1.out, H2.out⟩

end Go.Proofs.YtjdcjdclipbjhaaGreatDoor

/-
  The walks of Fds, of set to nothing, of Free. Condition: the table has a source and two sinks.
-/
namespace Go.Proofs.YtjdcjdclipbjhaaGreatDoor
open Go.RowKit Go.Shelf Go.Maps

theorem info_int : (Tryz.prog.info? 3).map (fun i => (i.zero, i.size, i.bytes)) = some (some (.int .i64 0), 1, 8) := by kernel_rfl
def intV (i : Int) : Value := .int .i64 i

set_option maxRecDepth 100000 in
set_option maxHeartbeats 2000000 in
theorem setNil_any (tb k : Nat) (fd : Nat) (hfd : fd < 16) (ty : TypeId) (hty : Plain ty) (b : Nat) (w : World) (hk : w.cell? ⟨tb, 0, none⟩ = some (.pointer (some ⟨k, 0, none⟩))) (hc : w.cell? ⟨tb, 1 + fd, none⟩ = some (thV ty b)) (hf : w.frozen? ⟨tb, 1 + fd, none⟩ = false) :
    Calls Tryz.prog 80 #[.pointer (some ⟨tb, 0, none⟩), .int .i64 fd, .nilIface] w fun e w' => (∃ v, e = .returned v) ∧ w' = w.setCell ⟨tb, 1 + fd, none⟩ .nilIface := by
  have c := fun w' => left_any (some ⟨k, 0, none⟩) ty hty b w'
  have hk2 : (w.setCell ⟨tb, 1 + fd, none⟩ .nilIface).cell? ⟨tb, 0, none⟩ = some (.pointer (some ⟨k, 0, none⟩)) := by
    exact (World.cell?_setCell_other w ⟨tb, 1 + fd, none⟩ ⟨tb, 0, none⟩ _ (by simp)).trans hk
  unfold thV at *
  go_enter Tryz.func80, Tryz.ntmps80
  go_wp2_with fail
  refine (c _).mono ?_
  rintro e w1 ⟨⟨v, rfl⟩, rfl⟩
  go_wp2_with fail
  refine bodyPost_end (results_none rfl _ _ _) rfl ?_
  exact ⟨⟨_, rfl⟩, rfl⟩

/-- What a table's array holds at a place. -/
def atArr (v0 v1 v2 : Value) (i : Nat) : Value := if i = 0 then v0 else if i = 1 then v1 else if i = 2 then v2 else .nilIface
theorem arr_at (v0 v1 v2 : Value) (i : Nat) (hi : i < 16) (w : World) :
    (Instr.index 174 (.agg #[v0, v1, v2, .nilIface, .nilIface, .nilIface, .nilIface, .nilIface, .nilIface, .nilIface, .nilIface, .nilIface, .nilIface, .nilIface, .nilIface, .nilIface]) (.int .i64 i)).run Tryz.prog w = .ok (atArr v0 v1 v2 i) w := by
  obtain rfl | rfl | rfl | rfl | rfl | rfl | rfl | rfl | rfl | rfl | rfl | rfl | rfl | rfl | rfl | rfl : i = 0 ∨ i = 1 ∨ i = 2 ∨ i = 3 ∨ i = 4 ∨ i = 5 ∨ i = 6 ∨ i = 7 ∨ i = 8 ∨ i = 9 ∨ i = 10 ∨ i = 11 ∨ i = 12 ∨ i = 13 ∨ i = 14 ∨ i = 15 := by omega
  all_goals kernel_rfl

/-- The relation behind an append of a number. -/
theorem fds_push {w wr w5 : World} {base : Nat} {v v' : Value} {k : Nat} (hk : k < 3)
    (h2 : wr.ownsRow base 3 1 v (min k 3) ((([0, 1, 2] : List Int).take k).map intV)) (hb : Below base w wr) (hB : base ≤ wr.heap.size) {o : Obj}
    (hown : w5.ownsRow base 3 1 v' (min k 3 + 1) ((([0, 1, 2] : List Int).take k).map intV ++ [.int .i64 (k : Nat)])) (hg : (wr.alloc o).grownBy w5 v.ownBlock) :
    w5.ownsRow base 3 1 v' (min (k + 1) 3) ((([0, 1, 2] : List Int).take (k + 1)).map intV) ∧ Below base w w5 := by
  refine ⟨?_, (hb.alloc hB o).grown hg (by simp; omega) fun j hj => (h2.lt j hj).1⟩
  obtain rfl | rfl | rfl : k = 0 ∨ k = 1 ∨ k = 2 := by omega
  all_goals simpa [intV] using hown

set_option maxRecDepth 100000 in
set_option maxHeartbeats 4000000 in
/-- The descriptors that have something: 0, 1, 2. -/
theorem fds_any (tb k : Nat) (t0 t1 t2 : TypeId) (b0 b1 b2 : Nat) (w : World) (ht : TabAt w tb k (thV t0 b0) (thV t1 b1) (thV t2 b2)) :
    Calls Tryz.prog 189 #[.pointer (some ⟨tb, 0, none⟩)] w fun e w' => ∃ v, e = .returned v ∧ w'.ownsRow w.heap.size 3 1 v 3 (([0, 1, 2] : List Int).map intV) ∧ Below w.heap.size w w' := by
  have a1 := ht.cell 1 rfl
  have a2 := ht.cell 2 rfl
  have a3 := ht.cell 3 rfl
  have a4 := ht.cell 4 rfl
  have a5 := ht.cell 5 rfl
  have a6 := ht.cell 6 rfl
  have a7 := ht.cell 7 rfl
  have a8 := ht.cell 8 rfl
  have a9 := ht.cell 9 rfl
  have a10 := ht.cell 10 rfl
  have a11 := ht.cell 11 rfl
  have a12 := ht.cell 12 rfl
  have a13 := ht.cell 13 rfl
  have a14 := ht.cell 14 rfl
  have a15 := ht.cell 15 rfl
  have a16 := ht.cell 16 rfl
  clear ht
  obtain ⟨i0, hi, hz0, hz1, hz2⟩ := info_parts info_int
  unfold thV at *
  go_enter Tryz.func189, Tryz.ntmps189
  go_wp2_with fail
  go_loopw [3, 4, 5, 10] (fun v _x4 _x5 i wr => ∃ k : Nat, k ≤ 16 ∧ i = .int .i64 k ∧ wr.ownsRow w.heap.size 3 1 v (min k 3) ((([0, 1, 2] : List Int).take k).map intV) ∧ Below w.heap.size w wr) (fun _ _ _ i _ => 16 - (intOf i).toNat)
  case atStart => exact ⟨0, Nat.zero_le _, rfl, World.ownsRow_nil _ _ _ _, Below.refl _ _⟩
  case round =>
    obtain ⟨k, hkl, rfl, hown, hbw⟩ := hrel
    have hzw := hbw.size
    by_cases h16 : k = 16
    · subst h16
      go_wp2_with fail
      go_ret
      exact ⟨_, rfl, hown, hbw⟩
    have hk16 : k < 16 := by omega
    by_cases h3 : k < 3
    · obtain ⟨ty, b, hx⟩ : ∃ ty b, atArr (thV t0 b0) (thV t1 b1) (thV t2 b2) k = thV ty b := by
        obtain rfl | rfl | rfl : k = 0 ∨ k = 1 ∨ k = 2 := by omega
        · exact ⟨t0, b0, rfl⟩
        · exact ⟨t1, b1, rfl⟩
        · exact ⟨t2, b2, rfl⟩
      have hidx := arr_at (thV t0 b0) (thV t1 b1) (thV t2 b2) k hk16
      rw [hx] at hidx
      unfold thV at hidx
      clear hx
      go_wp2_with (at_builtin; refine wpList_append_own _ rfl _ _ 40 rfl w.heap.size 3 i0 (.int .i64 0) 1 8 Tryz.underlying40 hi hz0 hz1 hz2 rfl (by decide) _ _ _ rfl (hown.alloc _) ⟨wr.heap.size, 0, none⟩ 1 1 [.int .i64 k] rfl rfl (cell_one_new _ _ _) (by simp [Value.oneCell']) (by unfold maxLen; omega) (by omega) (by simp; omega) ?_; intro v' w5 hown' hgrow _)
      obtain ⟨hown5, hbw5⟩ := fds_push h3 hown hbw hzw hown' hgrow
      go_roundw
      case rel => exact ⟨k + 1, by omega, by go_num, hown5, hbw5⟩
      case measure => simp [intOf]; omega
    · have e1 : min k 3 = min (k + 1) 3 := by omega
      have e2 : ([0, 1, 2] : List Int).take k = ([0, 1, 2] : List Int).take (k + 1) := by rw [List.take_of_length_le (by simp; omega), List.take_of_length_le (by simp; omega)]
      rw [e1, e2] at hown
      have HO := Lib.hid hown
      clear hown
      have hidx := arr_at (thV t0 b0) (thV t1 b1) (thV t2 b2) k hk16
      rw [show atArr (thV t0 b0) (thV t1 b1) (thV t2 b2) k = .nilIface by unfold atArr; rw [if_neg (by omega), if_neg (by omega), if_neg (by omega)]] at hidx
      unfold thV at hidx
      go_wp2_with fail
      go_roundw
      case rel => exact ⟨k + 1, by omega, by go_num, HO.out, hbw⟩
      case measure => simp [intOf]; omega

end Go.Proofs.YtjdcjdclipbjhaaGreatDoor

/-
  Spans in memory, and what the two Lists hand back. No program walked.
-/
namespace Go.Proofs.YtjdcjdclipbjhaaGreatDoor
open Go.RowKit Go.Shelf Go.Maps

theorem row_keep {w w' : World} {base : Nat} {e : TypeId} {size : Nat} {v : Value} {n : Nat} {xs : List Value} (h : w.ownsRow base e size v n xs) (hb : Below w.heap.size w w') : w'.ownsRow base e size v n xs := by
  exact own_kept h (Kept.of_below (S := fun _ => False) hb) fun _ _ hk => hk
theorem extract_mid (l : List UInt8) (a b : Nat) : (⟨l.toArray⟩ : ByteArray).extract a b = ⟨((l.drop a).take (b - a)).toArray⟩ := by
  apply ByteArray.ext; simp [ByteArray.data_extract]
theorem own_shape {w : World} {B n size : Nat} {t : TypeId} {v : Value} {xs : List Value} (h : w.ownsRow B t size v n xs) : ∃ p c, v = .slice p n c := by
  rcases h.2 with ⟨h1, h2⟩ | ⟨g, cap, cur, e, -⟩
  · exact ⟨none, 0, by rw [h1, h2]⟩
  · exact ⟨_, _, e⟩

/-- Spans as values. -/
def spanVals (l : List Co.Spn) : List Value := l.flatMap fun x => [.int .i64 x.1, .int .i64 x.2]
theorem spanVals_len (l : List Co.Spn) : (spanVals l).length = l.length * 2 := by
  induction l with
  | nil => rfl
  | cons x r ih => simp only [spanVals, List.flatMap_cons, List.length_append, List.length_cons, List.length_nil] at ih ⊢; omega
theorem spanVals_at : ∀ (l : List Co.Spn) (i : Nat), i < l.length → (spanVals l)[i * 2]? = some (.int .i64 (l.getD i (0, 0)).1) ∧ (spanVals l)[i * 2 + 1]? = some (.int .i64 (l.getD i (0, 0)).2)
  | [], i, h => absurd h (by simp)
  | x :: r, 0, _ => ⟨rfl, rfl⟩
  | x :: r, i + 1, h => by
    have := spanVals_at r i (by simpa using h)
    have e : spanVals (x :: r) = .int .i64 x.1 :: .int .i64 x.2 :: spanVals r := rfl
    rw [e, show (i + 1) * 2 = i * 2 + 1 + 1 by omega]
    exact this
theorem spanVals_app (a b : List Co.Spn) : spanVals (a ++ b) = spanVals a ++ spanVals b := by simp [spanVals]
def SpansOwn (T : TypeId) (w : World) (B : Nat) (v : Value) (l : List Co.Spn) : Prop := w.ownsRow B T 2 v l.length (spanVals l)
theorem span_push {T : TypeId} {w wr w5 : World} {base : Nat} {v v' : Value} {l : List Co.Spn} {f t : Int}
    (h2 : SpansOwn T wr base v l) (hb : Below base w wr) (hB : base ≤ wr.heap.size) {o : Obj}
    (hown : w5.ownsRow base T 2 v' (l.length + 1) (spanVals l ++ [.int .i64 f, .int .i64 t])) (hg : (wr.alloc o).grownBy w5 v.ownBlock) :
    SpansOwn T w5 base v' (l ++ [(f, t)]) ∧ Below base w w5 := by
  refine ⟨?_, (hb.alloc hB o).grown hg (by simp; omega) fun j hj => (h2.lt j hj).1⟩
  unfold SpansOwn
  rw [spanVals_app, List.length_append]
  exact hown

/-- What reading a list of places hands back. -/
def ListPost (T : TypeId) (r : Option (List Co.Spn)) (w : World) (e : Ending) (w' : World) : Prop := Below w.heap.size w w' ∧ ((r = none ∧ e = .returned (.tuple #[.slice none 0 0, .bool false])) ∨ ∃ l v, r = some l ∧ e = .returned (.tuple #[v, .bool true]) ∧ SpansOwn T w' w.heap.size v l)

theorem parts_len (f : UInt8 → Bool) : ∀ (s : List UInt8), (Wi.partsBy f s).length ≤ s.length + 1 ∧ ∀ p ∈ Wi.partsBy f s, p.length ≤ s.length := by
  intro s
  induction s with
  | nil => simp [Wi.partsBy]
  | cons c r ih =>
    obtain ⟨h1, h2⟩ := ih
    rw [Wi.partsBy]
    split
    · refine ⟨by simp; omega, fun p hp => ?_⟩
      rcases List.mem_cons.1 hp with rfl | hp
      · simp
      · have := h2 p hp; simp; omega
    · have hh := Wi.partsBy_head f r
      have h3 : ∀ p ∈ (Wi.partsBy f r).headD [] :: (Wi.partsBy f r).tail, p.length ≤ r.length := by rw [hh]; exact h2
      have h4 : ((Wi.partsBy f r).headD [] :: (Wi.partsBy f r).tail).length ≤ r.length + 1 := by rw [hh]; exact h1
      refine ⟨by simp at h4 ⊢; omega, fun p hp => ?_⟩
      rcases List.mem_cons.1 hp with rfl | hp
      · have := h3 ((Wi.partsBy f r).headD []) (by simp); simp at this ⊢; omega
      · have := h3 p (by simp [hp]); simp; omega

end Go.Proofs.YtjdcjdclipbjhaaGreatDoor
