/-
  Texts of this seat put together: K12, Pr, K13.
-/
import Derived.Test.YtjdcjdclipbjhaaGreatDoorQ8
import Derived.Deep.MidRow

/-
  The walk of proc.New and of call, at a process that is top. Conditions on the closure: it answers, and not 'not now'.
-/
namespace Go.Proofs.YtjdcjdclipbjhaaGreatDoor
open Go.RowKit Go.Shelf Go.Maps

/-- A process. -/
def ProcAt (W : World) (p k tb : Nat) (av : Value) (buf line run held peak : Int) (may top : Bool) (steps : Int) (al : Nat) : Prop :=
  Blk W p #[.pointer (some ⟨k, 0, none⟩), .pointer (some ⟨tb, 0, none⟩), av, .slice none 0 0, .string ⟨#[]⟩, .int .i64 buf, .int .i64 line, .int .i64 run, .int .i64 held, .int .i64 peak, .slice none 0 0, .int .i64 0, .bool may, .bool top, .bool false, .int .i64 steps, .nilIface, .pointer (some ⟨al, 0, none⟩)] 119

/-- What a call answers: a number, bytes, an error. -/
def replyC (n : Int) (q : Option Addr) (l c : Nat) (er : Int) : Array Value := #[.int .i64 n, .int .i64 0, .slice q l c, .slice none 0 0, .int .i64 0, .bool false, .int .i64 0, .int .i64 0, .int .i64 0, .int .i64 0, .int .i64 er]

theorem reply_cells {W : World} {b : Nat} {n : Int} {q : Option Addr} {l c : Nat} {er : Int} (h : Blk W b (replyC n q l c er) 346) :
    (W.cell? ⟨b, 0, none⟩ = some (.int .i64 n) ∧ W.cell? ⟨b, 1, none⟩ = some (.int .i64 0) ∧ W.cell? ⟨b, 2, none⟩ = some (.slice q l c) ∧ W.cell? ⟨b, 3, none⟩ = some (.slice none 0 0) ∧ W.cell? ⟨b, 4, none⟩ = some (.int .i64 0) ∧ W.cell? ⟨b, 5, none⟩ = some (.bool false) ∧ W.cell? ⟨b, 6, none⟩ = some (.int .i64 0) ∧ W.cell? ⟨b, 7, none⟩ = some (.int .i64 0) ∧ W.cell? ⟨b, 8, none⟩ = some (.int .i64 0) ∧ W.cell? ⟨b, 9, none⟩ = some (.int .i64 0) ∧ W.cell? ⟨b, 10, none⟩ = some (.int .i64 er)) ∧
    (W.frozen? ⟨b, 0, none⟩ = false ∧ W.frozen? ⟨b, 1, none⟩ = false ∧ W.frozen? ⟨b, 2, none⟩ = false ∧ W.frozen? ⟨b, 3, none⟩ = false ∧ W.frozen? ⟨b, 4, none⟩ = false ∧ W.frozen? ⟨b, 5, none⟩ = false ∧ W.frozen? ⟨b, 6, none⟩ = false ∧ W.frozen? ⟨b, 7, none⟩ = false ∧ W.frozen? ⟨b, 8, none⟩ = false ∧ W.frozen? ⟨b, 9, none⟩ = false ∧ W.frozen? ⟨b, 10, none⟩ = false) :=
  ⟨⟨h.cell 0 rfl, h.cell 1 rfl, h.cell 2 rfl, h.cell 3 rfl, h.cell 4 rfl, h.cell 5 rfl, h.cell 6 rfl, h.cell 7 rfl, h.cell 8 rfl, h.cell 9 rfl, h.cell 10 rfl⟩, ⟨h.free 0, h.free 1, h.free 2, h.free 3, h.free 4, h.free 5, h.free 6, h.free 7, h.free 8, h.free 9, h.free 10⟩⟩

theorem Blk.setCells {b : Nat} {t : TypeId} : ∀ (vs : List Value) (o : Nat) (w : World) (cs : Array Value), Blk w b cs t → ∃ cs', Blk (w.setCells b o vs) b cs' t ∧ cs'.size = cs.size ∧ ∀ i, i < cs.size → cs'[i]? = if o ≤ i ∧ i < o + vs.length then vs[i - o]? else cs[i]?
  | [], o, w, cs, h => ⟨cs, h, rfl, fun i _ => by rw [if_neg (by simp)]⟩
  | v :: r, o, w, cs, h => by
    obtain ⟨cs', h1, h2, h3⟩ := Blk.setCells r (o + 1) _ _ (h.set o v)
    refine ⟨cs', h1, by simpa using h2, fun i hi => ?_⟩
    rw [h3 i (by simpa using hi)]
    by_cases hio : i = o
    · subst hio
      rw [if_neg (by omega), if_pos (by simp)]
      simp [hi]
    · by_cases hr : o + 1 ≤ i ∧ i < o + 1 + r.length
      · rw [if_pos hr, if_pos (by simp; omega), show i - o = (i - (o + 1)) + 1 by omega, List.getElem?_cons_succ]
      · rw [if_neg hr, if_neg (by simp; omega), Array.getElem?_setIfInBounds_ne (by omega)]
/-- All of a block is written. -/
theorem Blk.setAll {w : World} {b : Nat} {t : TypeId} {cs vs : Array Value} (h : Blk w b cs t) (hs : vs.size = cs.size) : Blk (w.setCells b 0 vs.toList) b vs t := by
  obtain ⟨cs', h1, h2, h3⟩ := Blk.setCells vs.toList 0 w cs h
  have : cs' = vs := by
    apply Array.ext_getElem?
    intro i
    by_cases hi : i < cs.size
    · rw [h3 i hi, if_pos (by simp; omega)]; simp
    · rw [Array.getElem?_eq_none (by omega), Array.getElem?_eq_none (by omega)]
  subst this
  exact h1
theorem Kept.setCells {S : Nat → Prop} {w : World} {b : Nat} (hb : S b ∨ w.heap.size ≤ b) : ∀ (vs : List Value) (o : Nat) (w' : World), Kept S w w' → Kept S w (w'.setCells b o vs)
  | [], _, _, h => h
  | v :: r, o, _, h => Kept.setCells hb r (o + 1) _ (h.setCell hb o v)

set_option maxRecDepth 100000 in
set_option maxHeartbeats 4000000 in
theorem call_any (g : Nat) (hent : ∀ (args : Array Value) (w : World), (callFunc g args).run Tryz.prog w = .ok (.enter g args) w) (caps : Array Value) (p k tb al : Nat) (av : Value) (buf line run held peak steps : Int) (w : World)
    (hp : ProcAt w p k tb av buf line run held peak true true steps al) (Q : Int → Option Addr → Nat → Nat → Int → World → Prop)
    (hdo : ∀ w1 s, Kept (fun j => j = p) w w1 → w.heap.size < w1.heap.size → ProcAt w1 p k tb av buf line run held peak true true s al →
      Calls Tryz.prog g caps w1 fun e w2 => ∃ n q l c er held' peak' s', e = .returned (.agg (replyC n q l c er)) ∧ er ≠ 10 ∧ ProcAt w2 p k tb av buf line run held' peak' true true s' al ∧ w1.heap.size ≤ w2.heap.size ∧ w2.heap[w.heap.size]? = w1.heap[w.heap.size]? ∧ Q n q l c er w2) :
    Calls Tryz.prog 201 #[.pointer (some ⟨p, 0, none⟩), .func (.func g) #[] caps] w fun e w' => ∃ n q l c er w2, e = .returned (.agg (replyC n q l c er)) ∧ Q n q l c er w2 ∧ w.heap.size < w2.heap.size ∧ Kept (fun j => j = w.heap.size) w2 w' := by
  have hplt := hp.lt
  obtain ⟨w1, hw1⟩ : ∃ w1, (w.alloc (.cells (replyC 0 none 0 0 0) 346)) = w1 := ⟨_, rfl⟩
  have hk1 : Kept (fun j => j = p) w w1 := by rw [← hw1]; exact (Kept.refl _ _).alloc _
  have hp1 : ProcAt w1 p k tb av buf line run held peak true true steps al := by rw [← hw1]; exact Blk.alloc hp _
  have hr1 : Blk w1 w.heap.size (replyC 0 none 0 0 0) 346 := by rw [← hw1]; exact Blk.new _ _ _
  have hs1 : w1.heap.size = w.heap.size + 1 := by rw [← hw1]; simp
  have q10 := hp1.cell 10 rfl
  have q11 := hp1.cell 11 rfl
  have p10 := hp1.drew.cell 10 rfl
  have p11 := hp1.drew.cell 11 rfl
  have HP := Lib.hid hp1
  have HR := Lib.hid hr1
  have HK := Lib.hid hk1
  clear hp hp1 hr1 hk1
  unfold replyC at hw1
  go_enter Tryz.func201, Tryz.ntmps201
  go_wp2_with fail
  try rw [hw1]
  go_region
  go_wp2_with fail
  have HP2 := Lib.hid (HP.out.drew)
  have HR2 := Lib.hid (HR.out.drew)
  have HK2 := Lib.hid (HK.out.drew)
  have hs2 : w1.drew.heap.size = w.heap.size + 1 := by simpa using hs1
  clear p10 p11 q10 q11 hw1 HP HR HK hs1
  generalize w1.drew = w2 at *
  clear w1
  have c12 := HP2.out.cell 12 (v := .bool true) rfl
  have c13 := HP2.out.cell 13 (v := .bool true) rfl
  have c15 := HP2.out.cell 15 (v := .int .i64 steps) rfl
  have f12 := HP2.out.free 12
  have f15 := HP2.out.free 15
  go_loopw [5] (fun _x5 wr => wr = w2) (fun _ _ => 0)
  case atStart => rfl
  case round =>
    obtain rfl := hrel
    go_wp2_with fail
    have HP3 : ProcAt ((wr.setCell ⟨p, 12, none⟩ (.bool true)).setCell ⟨p, 15, none⟩ (.int .i64 (wrap64 (steps + 1)))) p k tb av buf line run held peak true true (wrap64 (steps + 1)) al := (HP2.out.set 12 (.bool true)).set 15 _
    have HK3 : Kept (fun j => j = p) w ((wr.setCell ⟨p, 12, none⟩ (.bool true)).setCell ⟨p, 15, none⟩ (.int .i64 (wrap64 (steps + 1)))) := (HK2.out.setCell (.inl rfl) 12 _).setCell (.inl rfl) 15 _
    have HR3 : Blk ((wr.setCell ⟨p, 12, none⟩ (.bool true)).setCell ⟨p, 15, none⟩ (.int .i64 (wrap64 (steps + 1)))) w.heap.size (replyC 0 none 0 0 0) 346 := (HR2.out.setOther (by show w.heap.size ≠ p; omega) _).setOther (by show w.heap.size ≠ p; omega) _
    have hs3 : ((wr.setCell ⟨p, 12, none⟩ (.bool true)).setCell ⟨p, 15, none⟩ (.int .i64 (wrap64 (steps + 1)))).heap.size = w.heap.size + 1 := by simpa [World.setCell] using hs2
    have HD := hdo _ _ HK3 (by omega) HP3
    have HR4 := Lib.hid HR3
    have HS3 := Lib.hid hs3
    clear hdo HP3 HK3 HR3 c12 c13 c15 f12 f15 hs2 hs3
    generalize ((wr.setCell ⟨p, 12, none⟩ (.bool true)).setCell ⟨p, 15, none⟩ (.int .i64 (wrap64 (steps + 1)))) = w3 at *
    refine HD.mono ?_
    rintro e w4 ⟨n, q, l, c, er, held', peak', s', rfl, her, hp4, hsz4, hbl4, hq⟩
    clear HD
    have hr4 : Blk w4 w.heap.size (replyC 0 none 0 0 0) 346 := hbl4.trans HR4.out
    have hsz5 : w.heap.size < w4.heap.size := hr4.lt
    have hn := Blk.new w4 (replyC n q l c er) 346
    have hrg : (w4.alloc (.cells (replyC n q l c er) 346)).rangeAt w4.heap.size 0 (replyC n q l c er).toList := by
      have := World.rangeAt_of_block hn 0 11
      exact this
    have hr5 : Blk (w4.alloc (.cells (replyC n q l c er) 346)) w.heap.size (replyC 0 none 0 0 0) 346 := hr4.alloc _
    have hth : (w4.alloc (.cells (replyC n q l c er) 346)).there w.heap.size 0 (replyC n q l c er).size := by
      obtain ⟨⟨y0, y1, y2, y3, y4, y5, y6, y7, y8, y9, y10⟩, ⟨z0, z1, z2, z3, z4, z5, z6, z7, z8, z9, z10⟩⟩ := reply_cells hr5
      intro j hj
      have hj' : j < 11 := hj
      obtain rfl | rfl | rfl | rfl | rfl | rfl | rfl | rfl | rfl | rfl | rfl : j = 0 ∨ j = 1 ∨ j = 2 ∨ j = 3 ∨ j = 4 ∨ j = 5 ∨ j = 6 ∨ j = 7 ∨ j = 8 ∨ j = 9 ∨ j = 10 := by omega
      all_goals simp [*]
    have x10 := hn.cell 10 (v := .int .i64 er) rfl
    have p13 := (Blk.alloc hp4 (.cells (replyC n q l c er) 346)).cell 13 (v := .bool true) rfl
    have HRG := Lib.hid hrg
    have HR5 := Lib.hid hr5
    have HTH := Lib.hid hth
    have HQ := Lib.hid hq
    have her2 : (er == 10) = false := by simpa using her
    have hinfo : (Tryz.prog.info? 346).map (·.size) = some 11 := by kernel_rfl
    have HI := Lib.hid hinfo
    have HONE := Lib.hid (show (replyC n q l c er).all (·.oneCell') = true by simp [replyC, Value.oneCell'])
    clear hr4 hn hp4 hq hbl4 hrg hr5 hth hinfo
    obtain ⟨w5, hw5⟩ : ∃ w5, (w4.alloc (.cells (replyC n q l c er) 346)).setCells w.heap.size 0 (replyC n q l c er).toList = w5 := ⟨_, rfl⟩
    have HW5 := Lib.hid (hw5 ▸ Blk.setAll (vs := replyC n q l c er) HR5.out rfl : Blk w5 w.heap.size (replyC n q l c er) 346)
    have HK5 := Lib.hid (hw5 ▸ Kept.setCells (S := fun j => j = w.heap.size) (.inl rfl) _ 0 _ ((Kept.refl (fun j => j = w.heap.size) w4).alloc _) : Kept (fun j => j = w.heap.size) w4 w5)
    have HE5 := Lib.hid hw5
    clear hw5
    unfold replyC at *
    go_wp2_with (first | (refine wpList_load_mid rfl 346 _ rfl w4.heap.size 0 rfl _ _ HRG.out Tryz.underlying346 rfl HI.out ?_) | (refine wpList_store_mid rfl 346 _ _ rfl w.heap.size 0 _ rfl rfl HTH.out HI.out HONE.out ?_; rw [show World.setCells _ w.heap.size 0 _ = w5 from HE5.out]; obtain ⟨⟨r0, r1, r2, r3, r4, r5, r6, r7, r8, r9, r10⟩, -⟩ := reply_cells HW5.out; refine Hid.out ?_))
    refine Lib.hid ?_
    go_wp2_with fail
    refine bodyPost_ret (v := .agg #[.int .i64 n, .int .i64 0, .slice q l c, .slice none 0 0, .int .i64 0, .bool false, .int .i64 0, .int .i64 0, .int .i64 0, .int .i64 0, .int .i64 er]) ?_ rfl ⟨n, q, l, c, er, w4, rfl, HQ.out, hsz5, HK5.out⟩
    simp [results, Tryz.results201, go_sem, r0, r1, r2, r3, r4, r5, r6, r7, r8, r9, r10]

end Go.Proofs.YtjdcjdclipbjhaaGreatDoor

/-
  A process that runs, with its kernel, in memory (PrAt); what keeps it. No condition.
-/
namespace Go.Proofs.YtjdcjdclipbjhaaGreatDoor
open Go.RowKit Go.Shelf Go.Maps

def strV (s : Bts) : Value := .string ⟨s.toArray⟩

/-- The blocks of a run: the tree's four, the kernel, its map, the table, source, sinks, process, crowd; and how many blocks there were when main began. -/
structure Fx where
  t : Nat
  r : Nat
  a : Nat
  b : Nat
  k : Nat
  m : Nat
  tb : Nat
  s0 : Nat
  s1 : Nat
  s2 : Nat
  p : Nat
  al : Nat
  n0 : Nat
  av : Value
  args : List Bts
  buf : Nat
  line : Nat
  run : Nat
  w0 : World

/-- The kernel's things. -/
def thD3 (F : Fx) : DataW Unit := (((DataW.map []).put (.int .i64 ((0 + 1 : Nat) : Int)) (thD 183 F.s0)).put (.int .i64 ((1 + 1 : Nat) : Int)) (thD 187 F.s1)).put (.int .i64 ((2 + 1 : Nat) : Int)) (thD 187 F.s2)

/-- What does not turn in a run: its blocks are old, and none that may be written. -/
structure FixAt (W : World) (F : Fx) (M : Nat → Prop) : Prop where
  tree : TreeAt W F.t F.r F.a F.b
  kern : KernAt W F.k F.t ((2 + 1 : Nat) : Int) F.m
  things : W.ownsMap Tryz.prog 3 thElem F.m 3 (thD3 F)
  tab : TabAt W F.tb F.k (thV 183 F.s0) (thV 187 F.s1) (thV 187 F.s2)
  args : W.ownsRow 0 9 1 F.av F.args.length (F.args.map strV)
  argsOld : ∀ j, F.av.ownBlock = some j → j < F.n0 ∧ ¬ M j
  argsLen : F.args.length < 1073741824
  oldT : F.t < F.n0 ∧ ¬ M F.t
  oldR : F.r < F.n0 ∧ ¬ M F.r
  oldA : F.a < F.n0 ∧ ¬ M F.a
  oldB : F.b < F.n0 ∧ ¬ M F.b
  oldK : F.k < F.n0 ∧ ¬ M F.k
  oldM : F.m < F.n0 ∧ ¬ M F.m
  oldTb : F.tb < F.n0 ∧ ¬ M F.tb
  old : Below F.w0.heap.size F.w0 W
  oldW : ∀ j, M j → F.w0.heap.size ≤ j
  oldN : F.w0.heap.size ≤ F.n0

/-- A process that runs: M are the blocks that it may write; what its source still says, what its two sinks were told. -/
structure PrAt (W : World) (F : Fx) (M : Nat → Prop) (inp out err : Bts) : Prop where
  fix : FixAt W F M
  src : SrcAt W (fun g => g < F.n0 ∧ ¬ M g) F.s0 inp
  snk : ∃ v1 v2, Blk W F.s1 #[v1] 188 ∧ Blk W F.s2 #[v2] 188 ∧ W.ownsRow 0 5 1 v1 out.length (out.map u8V) ∧ W.ownsRow 0 5 1 v2 err.length (err.map u8V) ∧
    (∀ j, v1.ownBlock = some j → M j ∧ j ≠ F.p ∧ j ≠ F.s0 ∧ j ≠ F.s1 ∧ j ≠ F.s2 ∧ v2.ownBlock ≠ some j) ∧ (∀ j, v2.ownBlock = some j → M j ∧ j ≠ F.p ∧ j ≠ F.s0 ∧ j ≠ F.s1 ∧ j ≠ F.s2)
  proc : ∃ held peak steps : Int, ProcAt W F.p F.k F.tb F.av F.buf F.line F.run held peak true true steps F.al
  mp : M F.p
  m0 : M F.s0
  m1 : M F.s1
  m2 : M F.s2
  dist : F.p ≠ F.s0 ∧ F.p ≠ F.s1 ∧ F.p ≠ F.s2 ∧ F.s0 ≠ F.s1 ∧ F.s0 ≠ F.s2 ∧ F.s1 ≠ F.s2
  lt : ∀ j, M j → j < W.heap.size
  n0 : F.n0 ≤ W.heap.size
  lims : 1 ≤ F.buf ∧ 1 ≤ F.line ∧ F.buf ≤ 1099511627776 ∧ F.line ≤ 1099511627776
  big : inp.length ≤ 4294967296

/-- From a world to another one: nothing has turned but what may be written; what may be written then is that, or new. -/
structure Mv (M M' : Nat → Prop) (W W' : World) : Prop where
  kept : Kept M W W'
  new : ∀ j, M' j → M j ∨ W.heap.size ≤ j

theorem Mv.refl (M : Nat → Prop) (W : World) : Mv M M W W := ⟨Kept.refl _ _, fun _ h => .inl h⟩
theorem Mv.trans {M M' M'' : Nat → Prop} {W W' W'' : World} (h : Mv M M' W W') (h2 : Mv M' M'' W' W'') : Mv M M'' W W'' :=
  ⟨h.kept.trans' h2.kept fun k hk hm => by
    rcases h.new k hm with h1 | h1
    · exact h1
    · omega, fun j hj => by
    rcases h2.new j hj with h1 | h1
    · exact h.new j h1
    · exact .inr (Nat.le_trans h.kept.size h1)⟩
theorem Mv.below {M : Nat → Prop} {W W' : World} (h : Below W.heap.size W W') : Mv M M W W' := ⟨Kept.of_below h, fun _ h => .inl h⟩
/-- A block of the utility's own stays its own. -/
theorem Mv.not {M M' : Nat → Prop} {W W' : World} (h : Mv M M' W W') {j : Nat} (hj : j < W.heap.size) (hM : ¬ M j) : ¬ M' j := fun h1 => by
  rcases h.new j h1 with h2 | h2
  · exact hM h2
  · omega

theorem FixAt.kept {W W' : World} {F : Fx} {M S : Nat → Prop} (h : FixAt W F M) (hk : Kept S W W') (hS : ∀ j, j < F.n0 → ¬ M j → ¬ S j) : FixAt W' F M :=
  ⟨⟨h.tree.1.kept hk (hS _ h.oldT.1 h.oldT.2), h.tree.2.1.kept hk (hS _ h.oldR.1 h.oldR.2), (hk.block _ (lt_of_heap h.tree.2.2.1) (hS _ h.oldA.1 h.oldA.2)).trans h.tree.2.2.1, (hk.block _ (lt_of_heap h.tree.2.2.2) (hS _ h.oldB.1 h.oldB.2)).trans h.tree.2.2.2⟩,
    Blk.kept h.kern hk (hS _ h.oldK.1 h.oldK.2), map_same h.things (hk.block _ h.things.lt (hS _ h.oldM.1 h.oldM.2)), Blk.kept h.tab hk (hS _ h.oldTb.1 h.oldTb.2),
    own_kept h.args hk fun j hj => hS _ (h.argsOld j hj).1 (h.argsOld j hj).2, h.argsOld, h.argsLen, h.oldT, h.oldR, h.oldA, h.oldB, h.oldK, h.oldM, h.oldTb,
    ⟨hk.os.trans h.old.os, hk.tape.trans h.old.tape, hk.output.trans h.old.output, Nat.le_trans h.old.size hk.size, fun j hj => (hk.block j (Nat.lt_of_lt_of_le hj h.old.size) (hS j (Nat.lt_of_lt_of_le hj h.oldN) fun hm => by have := h.oldW j hm; omega)).trans (h.old.block j hj)⟩, h.oldW, h.oldN⟩
theorem FixAt.more {W : World} {F : Fx} {M M' : Nat → Prop} (h : FixAt W F M) (hM : ∀ j, j < F.n0 → M' j → M j) : FixAt W F M' :=
  ⟨h.tree, h.kern, h.things, h.tab, h.args, fun j hj => ⟨(h.argsOld j hj).1, fun h1 => (h.argsOld j hj).2 (hM _ (h.argsOld j hj).1 h1)⟩, h.argsLen, ⟨h.oldT.1, fun h1 => h.oldT.2 (hM _ h.oldT.1 h1)⟩, ⟨h.oldR.1, fun h1 => h.oldR.2 (hM _ h.oldR.1 h1)⟩, ⟨h.oldA.1, fun h1 => h.oldA.2 (hM _ h.oldA.1 h1)⟩, ⟨h.oldB.1, fun h1 => h.oldB.2 (hM _ h.oldB.1 h1)⟩, ⟨h.oldK.1, fun h1 => h.oldK.2 (hM _ h.oldK.1 h1)⟩, ⟨h.oldM.1, fun h1 => h.oldM.2 (hM _ h.oldM.1 h1)⟩, ⟨h.oldTb.1, fun h1 => h.oldTb.2 (hM _ h.oldTb.1 h1)⟩, h.old, fun j hj => by
    rcases Nat.lt_or_ge j F.n0 with h1 | h1
    · exact h.oldW j (hM j h1 hj)
    · exact Nat.le_trans h.oldN h1, h.oldN⟩

/-- Whatever the utility turns in memory of its own. -/
theorem PrAt.kept {W W' : World} {F : Fx} {M S : Nat → Prop} {inp out err : Bts} (h : PrAt W F M inp out err) (hk : Kept S W W') (hS : ∀ j, S j → F.n0 ≤ j ∧ ¬ M j) : PrAt W' F M inp out err := by
  obtain ⟨hf, hs, ⟨v1, v2, b1, b2, o1, o2, d1, d2⟩, ⟨hd, pk, st, hp⟩, mp, m0, m1, m2, di, lt, n0, li, bg⟩ := h
  have hM : ∀ j, M j → ¬ S j := fun j hj hs => (hS j hs).2 hj
  refine ⟨hf.kept hk fun j hj _ hs => by have := (hS j hs).1; omega, ?_, ⟨v1, v2, b1.kept hk (hM _ m1), b2.kept hk (hM _ m2), own_kept o1 hk fun j hj => hM _ (d1 j hj).1, own_kept o2 hk fun j hj => hM _ (d2 j hj).1, d1, d2⟩, ⟨hd, pk, st, Blk.kept hp hk (hM _ mp)⟩, mp, m0, m1, m2, di, fun j hj => Nat.lt_of_lt_of_le (lt j hj) hk.size, Nat.le_trans n0 hk.size, li, bg⟩
  obtain ⟨v, hb, hsl⟩ := hs
  exact ⟨v, hb.kept hk (hM _ m0), hsl.kept hk fun g _ hN hs => by have := (hS g hs).1; omega⟩
theorem PrAt.below {W W' : World} {F : Fx} {M : Nat → Prop} {inp out err : Bts} (h : PrAt W F M inp out err) (hb : Below W.heap.size W W') : PrAt W' F M inp out err :=
  h.kept (Kept.of_below (S := fun _ => False) hb) fun _ h => h.elim

end Go.Proofs.YtjdcjdclipbjhaaGreatDoor

/-
  The walks of Read's closure and of Proc.Read, from descriptor 0. Condition: a process that runs.
-/
namespace Go.Proofs.YtjdcjdclipbjhaaGreatDoor
open Go.RowKit Go.Shelf Go.Maps

/-- The source has said some bytes. -/
theorem PrAt.read {W W' : World} {F : Fx} {M : Nat → Prop} {inp inp' out err : Bts} (h : PrAt W F M inp out err) (hk : Kept (fun j => j = F.s0) W W') (hs : SrcAt W' (fun g => g < F.n0 ∧ ¬ M g) F.s0 inp') (hl : inp'.length ≤ inp.length) : PrAt W' F M inp' out err := by
  obtain ⟨hf, -, ⟨v1, v2, b1, b2, o1, o2, d1, d2⟩, ⟨hd, pk, st, hp⟩, mp, m0, m1, m2, di, lt, n0, li, bg⟩ := h
  refine ⟨hf.kept hk fun j _ hj e => hj (e ▸ m0), hs, ⟨v1, v2, b1.kept hk fun e => di.2.2.2.1 e.symm, b2.kept hk fun e => di.2.2.2.2.1 e.symm, own_kept o1 hk fun j hj => (d1 j hj).2.2.1, own_kept o2 hk fun j hj => (d2 j hj).2.2.1, d1, d2⟩, ⟨hd, pk, st, Blk.kept hp hk di.1⟩, mp, m0, m1, m2, di, fun j hj => Nat.lt_of_lt_of_le (lt j hj) hk.size, Nat.le_trans n0 hk.size, li, by omega⟩

/-- The process has counted a step, or what it holds. -/
theorem PrAt.turn {W W' : World} {F : Fx} {M : Nat → Prop} {inp out err : Bts} (h : PrAt W F M inp out err) (hk : Kept (fun j => j = F.p) W W') {hd pk st : Int} (hp : ProcAt W' F.p F.k F.tb F.av F.buf F.line F.run hd pk true true st F.al) : PrAt W' F M inp out err := by
  obtain ⟨hf, ⟨v, hb, hsl⟩, ⟨v1, v2, b1, b2, o1, o2, d1, d2⟩, -, mp, m0, m1, m2, di, lt, n0, li, bg⟩ := h
  exact ⟨hf.kept hk fun j _ hj e => hj (e ▸ mp), ⟨v, hb.kept hk fun e => di.1 e.symm, hsl.kept hk fun g _ hN e => hN.2 (e ▸ mp)⟩, ⟨v1, v2, b1.kept hk fun e => di.2.1 e.symm, b2.kept hk fun e => di.2.2.1 e.symm, own_kept o1 hk fun j hj => (d1 j hj).2.1, own_kept o2 hk fun j hj => (d2 j hj).2.1, d1, d2⟩, ⟨hd, pk, st, hp⟩, mp, m0, m1, m2, di, fun j hj => Nat.lt_of_lt_of_le (lt j hj) hk.size, Nat.le_trans n0 hk.size, li, bg⟩

set_option maxRecDepth 100000 in
set_option maxHeartbeats 4000000 in
theorem read1_any (F : Fx) (M : Nat → Prop) (inp out err : Bts) (w : World) (h : PrAt w F M inp out err) (most : Nat) (hm : 1 ≤ most) (hm2 : most < 9223372036854775808) (q0 q1 q2 : Nat) (h0 : w.cell? ⟨q0, 0, none⟩ = some (.pointer (some ⟨F.p, 0, none⟩))) (h1 : w.cell? ⟨q1, 0, none⟩ = some (.int .i64 0)) (h2 : w.cell? ⟨q2, 0, none⟩ = some (.int .i64 most))
    (n0 : ¬ M q0) (n1 : ¬ M q1) (n2 : ¬ M q2) :
    Calls Tryz.prog 253 #[.pointer (some ⟨q0, 0, none⟩), .pointer (some ⟨q1, 0, none⟩), .pointer (some ⟨q2, 0, none⟩)] w fun e w' => ∃ q l c, e = .returned (.agg (replyC 0 q l c 0)) ∧ Sl w' (fun g => w.heap.size ≤ g) (.slice q l c) (inp.take most) ∧ PrAt w' F M (inp.drop most) out err ∧ Kept M w w' := by
  obtain ⟨w1, hw1⟩ : ∃ w1, (w.alloc (.cells (replyC 0 none 0 0 0) 346)) = w1 := ⟨_, rfl⟩
  have hb1 : Below w.heap.size w w1 := by rw [← hw1]; exact (Below.refl _ _).alloc (Nat.le_refl _) _
  have hr1 : Blk w1 w.heap.size (replyC 0 none 0 0 0) 346 := by rw [← hw1]; exact Blk.new _ _ _
  have hp1 := h.below hb1
  obtain ⟨hd, pk, st, hpp⟩ := hp1.proc
  have a0 := (hb1.cell (p := ⟨q0, 0, none⟩) (World.block_lt_of_cell? _ _ h0)).trans h0
  have a1 := (hb1.cell (p := ⟨q1, 0, none⟩) (World.block_lt_of_cell? _ _ h1)).trans h1
  have a2 := (hb1.cell (p := ⟨q2, 0, none⟩) (World.block_lt_of_cell? _ _ h2)).trans h2
  have a3 := hpp.cell 1 (v := .pointer (some ⟨F.tb, 0, none⟩)) rfl
  have hl : w.heap.size < w1.heap.size := hr1.lt
  have ht := tabRead_any F.tb 0 F.k F.t 3 F.m (by decide) F.s0 (fun g => g < F.n0 ∧ ¬ M g) inp most hm hm2 w1.drew (Blk.drew hp1.fix.kern) (hp1.fix.tab.cell 0 rfl) (hp1.fix.tab.cell 1 rfl) (by
    obtain ⟨v, hv, hs⟩ := hp1.src
    exact ⟨v, hv.drew, hs.below (below_drew2 _)⟩) (fun hh => hh.2 hp1.m0) hp1.big
  have m0 := World.new_ne w ⟨q0, 0, none⟩ h0
  have m1 := World.new_ne w ⟨q1, 0, none⟩ h1
  have m2 := World.new_ne w ⟨q2, 0, none⟩ h2
  have m3 : w.heap.size ≠ F.p := fun e => by have := h.lt F.p h.mp; omega
  have H := Lib.hid h
  have HB := Lib.hid hb1
  have HR := Lib.hid hr1
  have HP := Lib.hid hp1
  have HT := Lib.hid ht
  clear h hb1 hr1 hp1 hpp h0 h1 h2 ht
  unfold replyC at hw1
  go_enter Tryz.func253, Tryz.ntmps253
  go_wp2_with fail
  try rw [hw1]
  clear hw1
  have hne : ∀ q, ¬ M q → q ≠ F.s0 := fun q hq e => hq (e ▸ HP.out.m0)
  have hps : F.p ≠ F.s0 := HP.out.dist.1
  have hrs : w.heap.size ≠ F.s0 := fun e => by have := H.out.lt F.s0 H.out.m0; omega
  go_region_held3 (fun w' => w'.cell? ⟨q0, 0, none⟩ = some (.pointer (some ⟨F.p, 0, none⟩)) ∧ w'.cell? ⟨q1, 0, none⟩ = some (.int .i64 0) ∧ w'.cell? ⟨q2, 0, none⟩ = some (.int .i64 most) ∧ w'.cell? ⟨F.p, 1, none⟩ = some (.pointer (some ⟨F.tb, 0, none⟩))) (first | go_keep | exact HS.out)
    ((go_at_call 254; refine HT.out.mono ?_; rintro e w4 ⟨v, rfl, hs4, hsrc4, hk4⟩; obtain ⟨q, c, rfl, -⟩ := hs4.bs; have hK1 := (Kept.of_below (S := fun j => j = F.s0) (below_drew2 w1)).trans hk4; have HS := Lib.hid (show w4.cell? ⟨q0, 0, none⟩ = some (.pointer (some ⟨F.p, 0, none⟩)) ∧ w4.cell? ⟨q1, 0, none⟩ = some (.int .i64 0) ∧ w4.cell? ⟨q2, 0, none⟩ = some (.int .i64 most) ∧ w4.cell? ⟨F.p, 1, none⟩ = some (.pointer (some ⟨F.tb, 0, none⟩)) from ⟨(World.cell?_of_block (hK1.block q0 (World.block_lt_of_cell? _ _ a0) (hne q0 n0))).trans a0, (World.cell?_of_block (hK1.block q1 (World.block_lt_of_cell? _ _ a1) (hne q1 n1))).trans a1, (World.cell?_of_block (hK1.block q2 (World.block_lt_of_cell? _ _ a2) (hne q2 n2))).trans a2, (World.cell?_of_block (hK1.block F.p (World.block_lt_of_cell? _ _ a3) hps)).trans a3⟩); have hr4 := HR.out.kept hK1 hrs; have e2 := hr4.cell 2 (v := .slice none 0 0) rfl; have f2 := hr4.free 2; have e10 := hr4.cell 10 (v := .int .i64 0) rfl; have f10 := hr4.free 10; have HR4 := Lib.hid hr4; have HK1 := Lib.hid hK1; have HS4 := Lib.hid hs4; have HSRC := Lib.hid hsrc4; clear hr4 hK1 hs4 hsrc4 hk4))
  have hr5 : Blk ((w4.setCell ⟨w.heap.size, 2, none⟩ (.slice q (min most inp.length) c)).setCell ⟨w.heap.size, 10, none⟩ (.int .i64 0)) w.heap.size (replyC 0 q (min most inp.length) c 0) 346 := (HR4.out.set 2 _).set 10 _
  have hown : Kept (fun j => j = w.heap.size) w4 ((w4.setCell ⟨w.heap.size, 2, none⟩ (.slice q (min most inp.length) c)).setCell ⟨w.heap.size, 10, none⟩ (.int .i64 0)) := ((Kept.refl (fun j => j = w.heap.size) _).setCell (.inl rfl) 2 _).setCell (.inl rfl) 10 _
  obtain ⟨⟨r0, r1, r2, r3, r4, r5, r6, r7, r8, r9, r10⟩, -⟩ := reply_cells hr5
  have hlen : (inp.take most).length = min most inp.length := by simp
  have HLEN := Lib.hid hlen
  have HOWN := Lib.hid hown
  clear hr5 hown hlen
  generalize ((w4.setCell ⟨w.heap.size, 2, none⟩ (.slice q (min most inp.length) c)).setCell ⟨w.heap.size, 10, none⟩ (.int .i64 0)) = w5 at *
  go_wp2_with fail
  have hp4 := HP.out.read HK1.out HSRC.out (by simp)
  have hM : ¬ M w.heap.size := fun e => by have := H.out.lt _ e; omega
  refine bodyPost_ret (v := .agg (replyC 0 q (min most inp.length) c 0)) ?_ rfl ⟨q, _, c, rfl, ?_, hp4.kept HOWN.out fun j hj => by subst hj; exact ⟨H.out.n0, hM⟩, ?_⟩
  · unfold replyC
    simp [results, Tryz.results253, go_sem, r0, r1, r2, r3, r4, r5, r6, r7, r8, r9, r10]
  · have h4 := HS4.out
    rw [HLEN.out] at h4
    refine (h4.kept HOWN.out fun g hg hN e => ?_).mono fun g hg hN => ?_
    · have : w1.heap.size ≤ g := hN
      omega
    · have : w1.heap.size ≤ g := hN
      exact (by omega : w.heap.size ≤ g)
  · have h1 : Kept M w w4 := (Kept.of_below HB.out).trans (HK1.out.mono fun k _ e => e ▸ H.out.m0)
    exact h1.trans' HOWN.out fun k hk e => by omega

set_option maxRecDepth 100000 in
set_option maxHeartbeats 4000000 in
theorem read_any (F : Fx) (M : Nat → Prop) (inp out err : Bts) (w : World) (h : PrAt w F M inp out err) (most : Nat) (hm : 1 ≤ most) (hm2 : most < 9223372036854775808) :
    Calls Tryz.prog 207 #[.pointer (some ⟨F.p, 0, none⟩), .int .i64 0, .int .i64 most] w fun e w' => ∃ v, e = .returned (.tuple #[v, .int .i64 0]) ∧ Sl w' (fun g => w.heap.size ≤ g) v (inp.take most) ∧ PrAt w' F M (inp.drop most) out err ∧ Kept M w w' := by
  have hent : ∀ (args : Array Value) (w : World), (callFunc 253 args).run Tryz.prog w = .ok (.enter 253 args) w := enters_of Tryz.func253 (by kernel_rfl) rfl
  obtain ⟨w1, hw1⟩ : ∃ w1, ((w.alloc (.cells #[.pointer (some ⟨F.p, 0, none⟩)] 111)).alloc (.cells #[.int .i64 0] 3)).alloc (.cells #[.int .i64 most] 3) = w1 := ⟨_, rfl⟩
  have hb1 : Below w.heap.size w w1 := by rw [← hw1]; exact (((Below.refl _ _).alloc (Nat.le_refl _) _).alloc (by simp) _).alloc (by simp; omega) _
  have hs1 : w1.heap.size = w.heap.size + 1 + 1 + 1 := by rw [← hw1]; simp
  have k0 : Blk w1 w.heap.size #[.pointer (some ⟨F.p, 0, none⟩)] 111 := by rw [← hw1]; exact ((Blk.new _ _ _).alloc _).alloc _
  have k1 : Blk w1 (w.heap.size + 1) #[.int .i64 0] 3 := by
    rw [← hw1]
    have := Blk.new (w.alloc (.cells #[.pointer (some ⟨F.p, 0, none⟩)] 111)) #[.int .i64 0] 3
    simp only [World.size_alloc] at this
    exact this.alloc _
  have k2 : Blk w1 (w.heap.size + 1 + 1) #[.int .i64 most] 3 := by
    rw [← hw1]
    have := Blk.new ((w.alloc (.cells #[.pointer (some ⟨F.p, 0, none⟩)] 111)).alloc (.cells #[.int .i64 0] 3)) #[.int .i64 most] 3
    simpa only [World.size_alloc] using this
  have hp1 := h.below hb1
  obtain ⟨hd, pk, st, hpp⟩ := hp1.proc
  have hM : ∀ k, w.heap.size ≤ k → ¬ M k := fun k hk e => by have := h.lt k e; omega
  have hmf : ∀ (fn : Fn) (first cap : Array Value) (w : World), (Instr.makeFunc fn first cap).run Tryz.prog w = .ok (.func fn first cap) w := fun _ _ _ _ => rfl
  have c := call_any 253 hent #[.pointer (some ⟨w.heap.size, 0, none⟩), .pointer (some ⟨w.heap.size + 1, 0, none⟩), .pointer (some ⟨w.heap.size + 1 + 1, 0, none⟩)] F.p F.k F.tb F.al F.av F.buf F.line F.run hd pk st w1 hpp
    (fun _ q l c er w2 => er = 0 ∧ Sl w2 (fun g => w1.heap.size < g) (.slice q l c) (inp.take most) ∧ PrAt w2 F M (inp.drop most) out err ∧ Kept M w w2) (by
      intro w2 s hk2 hs2 hp2
      have hpr2 := hp1.turn hk2 hp2
      have hK2 : Kept M w w2 := (Kept.of_below hb1).trans (hk2.mono fun k _ e => e ▸ h.mp)
      have hne : ∀ k, w.heap.size ≤ k → k ≠ F.p := fun k hk e => by have := h.lt F.p h.mp; omega
      refine (read1_any F M inp out err w2 hpr2 most hm hm2 w.heap.size (w.heap.size + 1) (w.heap.size + 1 + 1) ((k0.kept hk2 (hne _ (by omega))).cell 0 rfl) ((k1.kept hk2 (hne _ (by omega))).cell 0 rfl) ((k2.kept hk2 (hne _ (by omega))).cell 0 rfl) (hM _ (by omega)) (hM _ (by omega)) (hM _ (by omega))).mono ?_
      rintro e w3 ⟨q, l, c, rfl, hsl, hp3, hK3⟩
      obtain ⟨hd', pk', st', hpp3⟩ := hp3.proc
      refine ⟨0, q, l, c, 0, hd', pk', st', rfl, by decide, hpp3, hK3.size, hK3.block _ hs2 (hM _ (by omega)), rfl, hsl.mono fun g _ hg => Nat.lt_of_lt_of_le hs2 hg, hp3, hK2.trans hK3⟩)
  have c0 := k0.cell 0 (v := .pointer (some ⟨F.p, 0, none⟩)) rfl
  have H := Lib.hid h
  have HM := Lib.hid hM
  have HS1 := Lib.hid hs1
  clear h hb1 hs1 k0 k1 k2 hp1 hpp hM hent
  go_enter Tryz.func207, Tryz.ntmps207
  go_wp2_with fail
  try rw [hw1]
  refine c.mono ?_
  rintro e w5 ⟨n, q, l, c', er, w4, rfl, ⟨rfl, hsl, hp4, hK4⟩, hs4, hk5⟩
  clear c c0 hw1 hmf
  have hn := Blk.new w5 (replyC n q l c' 0) 346
  have x2 := hn.cell 2 (v := .slice q l c') rfl
  have x10 := hn.cell 10 (v := .int .i64 0) rfl
  have y2 := hn.drew.cell 2 (v := .slice q l c') rfl
  have y10 := hn.drew.cell 10 (v := .int .i64 0) rfl
  have hlw : w1.heap.size < w5.heap.size := Nat.lt_of_lt_of_le hs4 hk5.size
  have FIN : ∀ W, Below w5.heap.size w5 W → ∃ v, Ending.returned (.tuple #[.slice q l c', .int .i64 0]) = .returned (.tuple #[v, .int .i64 0]) ∧ Sl W (fun g => w.heap.size ≤ g) v (inp.take most) ∧ PrAt W F M (inp.drop most) out err ∧ Kept M w W := by
    intro W hW
    have hs1 := HS1.out
    refine ⟨_, rfl, ((hsl.kept hk5 fun g _ hN e => ?_).below hW).mono fun g _ hN => ?_, (hp4.kept hk5 fun j hj => ?_).below hW, ?_⟩
    · have : w1.heap.size < g := hN
      omega
    · have : w1.heap.size < g := hN
      exact (by omega : w.heap.size ≤ g)
    · subst hj
      exact ⟨by have := H.out.n0; omega, HM.out _ (by omega)⟩
    · have h5 : Kept M w w5 := hK4.trans' hk5 fun k hk e => by omega
      exact h5.trans' (Kept.of_below (S := fun _ => False) hW) fun _ _ h => h.elim
  have HF := Lib.hid FIN
  clear hn FIN hk5 hs4 hK4 hp4 hsl
  unfold replyC at *
  go_wp2_with fail
  go_region
  go_wp2_with fail
  go_ret2
  exact HF.out _ ((Below.refl _ _).alloc (Nat.le_refl _) _).drew

end Go.Proofs.YtjdcjdclipbjhaaGreatDoor
