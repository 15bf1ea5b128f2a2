/-
  Texts of this seat put together: S1, S2, S3, Io, S4, App2, S5, S6, S7, X1, S8, M1, M2, M3, M4.
-/
import Derived.Test.YtfgmmaahbngonaaGreatDoorQ7
import Derived.Lib.Small
import Derived.Tactics
import Derived.Tactics2
import Derived.Defers
import Derived.Recover
import Derived.Laws.Pointers
import Derived.Laws.EntriesVeiled

/-
  A reader of descriptor 0 in memory; the walks of New, drop, fill, Free. Condition: a process that runs.
-/
namespace Go.Proofs.YtfgmmaahbngonaaGreatDoor
open Go.RowKit Go.Shelf Go.Maps

/-- From a world to another one where a reader, too, has turned. -/
def MvR (M M' : Nat → Prop) (rd : Nat) (W W' : World) : Prop := Kept (fun j => M j ∨ j = rd) W W' ∧ ∀ j, M' j → M j ∨ W.heap.size ≤ j

theorem MvR.trans {M M' M'' : Nat → Prop} {rd : Nat} {W W' W'' : World} (h : MvR M M' rd W W') (h2 : MvR M' M'' rd W' W'') : MvR M M'' rd W W'' :=
  ⟨h.1.trans' h2.1 fun k hk hm => by
    rcases hm with hm | hm
    · rcases h.2 k hm with h1 | h1
      · exact .inl h1
      · omega
    · exact .inr hm, fun j hj => by
    rcases h2.2 j hj with h1 | h1
    · exact h.2 j h1
    · exact .inr (Nat.le_trans h.1.size h1)⟩
theorem Mv.rd {M M' : Nat → Prop} {W W' : World} (h : Mv M M' W W') (rd : Nat) : MvR M M' rd W W' := ⟨h.kept.mono fun _ _ h => .inl h, h.new⟩
theorem Kept.rd {M : Nat → Prop} {W W' : World} (h : Kept M W W') (rd : Nat) : MvR M M rd W W' := ⟨h.mono fun _ _ h => .inl h, fun _ h => .inl h⟩

end Go.Proofs.YtfgmmaahbngonaaGreatDoor

/-
  The walks of a reader's fill and Free. Condition: a reader in memory.
-/
namespace Go.Proofs.YtfgmmaahbngonaaGreatDoor
open Go.RowKit Go.Shelf Go.Maps

theorem limBuf (a b c : Value) (w : World) : (Instr.field 39 (.agg #[a, b, c]) 0).run Tryz.prog w = .ok a w := by kernel_rfl
theorem limLine (a b c : Value) (w : World) : (Instr.field 39 (.agg #[a, b, c]) 1).run Tryz.prog w = .ok b w := by kernel_rfl

end Go.Proofs.YtfgmmaahbngonaaGreatDoor

/-
  The walks of a reader's Free, of Line's closure that fails. Condition: a reader in memory.
-/
namespace Go.Proofs.YtfgmmaahbngonaaGreatDoor
open Go.RowKit Go.Shelf Go.Maps

end Go.Proofs.YtfgmmaahbngonaaGreatDoor

/-
  Lines of bytes, as plain functions. No program in sight. No condition: definitions and their laws.
-/
namespace Go.Proofs.YtfgmmaahbngonaaGreatDoor.Wi
open Go

abbrev Bytes := List UInt8

/-- The next line, did it have a feed, what is left. -/
def lineOf : Bytes → Bytes × Bool × Bytes
  | [] => ([], false, [])
  | c :: r => if c = 10 then ([], true, r) else (c :: (lineOf r).1, (lineOf r).2.1, (lineOf r).2.2)
def feedOf (b : Bool) : Bytes := if b then [10] else []

theorem lineOf_skip (L t : Bytes) (h : ∀ c ∈ L, c ≠ 10) : lineOf (L ++ t) = (L ++ (lineOf t).1, (lineOf t).2.1, (lineOf t).2.2) := by
  induction L with
  | nil => rfl
  | cons c r ih =>
    rw [List.cons_append, lineOf, if_neg (h c (by simp)), ih fun x hx => h x (by simp [hx])]
    rfl
theorem lineOf_feed (t : Bytes) : lineOf (10 :: t) = ([], true, t) := by rw [lineOf, if_pos rfl]

end Go.Proofs.YtfgmmaahbngonaaGreatDoor.Wi

/-
  The walk of bytes.IndexByte at a line feed; a line that is being read (LnSt). Condition: a reader in memory.
-/
namespace Go.Proofs.YtfgmmaahbngonaaGreatDoor
open Go.RowKit Go.Shelf Go.Maps

theorem bytesOf_nums (xs : Bts) : Lib.bytesOf (nums xs) = xs := by
  unfold Lib.bytesOf nums
  rw [List.map_map]
  conv => rhs; rw [← List.map_id xs]
  apply List.map_congr_left
  intro c _
  simp

/-- Where the first feed stands. -/
theorem idx_cases (xs : Bts) : (Lib.indexByte xs 10 = -1 ∧ ∀ c ∈ xs, c ≠ 10) ∨ ∃ i : Nat, i < xs.length ∧ Lib.indexByte xs 10 = i ∧ xs = xs.take i ++ 10 :: xs.drop (i + 1) ∧ ∀ c ∈ xs.take i, c ≠ 10 := by
  induction xs with
  | nil => exact .inl ⟨rfl, by simp⟩
  | cons b l ih =>
    by_cases hb : b = 10
    · subst hb
      exact .inr ⟨0, by simp, by simp [Lib.indexByte], by simp, by simp⟩
    · have hb' : (b == 10) = false := by simpa using hb
      rcases ih with ⟨h1, h2⟩ | ⟨i, h0, h1, h2, h3⟩
      · refine .inl ⟨by simp [Lib.indexByte, hb', h1], ?_⟩
        intro c hc
        rcases List.mem_cons.1 hc with rfl | hc
        · exact hb
        · exact h2 c hc
      · refine .inr ⟨i + 1, by simp; omega, ?_, ?_, ?_⟩
        · have : ¬ ((i : Int) = -1) := by omega
          simp [Lib.indexByte, hb', h1, this]
        · simpa using h2
        · intro c hc
          rw [List.take_succ_cons] at hc
          rcases List.mem_cons.1 hc with rfl | hc
          · exact hb
          · exact h3 c hc

/-- The length of a slice that lies in a cell. -/
def lenAt (W : World) (b o : Nat) : Nat := match W.cell? ⟨b, o, none⟩ with
  | some (.slice _ n _) => n
  | _ => 0
theorem lenAt_of {W : World} {b o : Nat} {p : Option Addr} {n c : Nat} (h : W.cell? ⟨b, o, none⟩ = some (.slice p n c)) : lenAt W b o = n := by unfold lenAt; rw [h]
theorem Bs.take {w : World} {p : Option Addr} {xs : Bts} (h : Bs w p xs) (n : Nat) : Bs w p (xs.take n) := by
  intro hl
  have hl' : 0 < xs.length := by simp at hl; omega
  obtain ⟨b, o, hp, hc⟩ := h hl'
  refine ⟨b, o, hp, fun i hi => ?_⟩
  simp at hi
  rw [getD_take _ _ _ (by omega)]
  exact hc i (by omega)

end Go.Proofs.YtfgmmaahbngonaaGreatDoor

/-
  append of bytes in a region that draws its order. Condition: the bytes are known, in memory.
-/
namespace Go.Proofs.YtfgmmaahbngonaaGreatDoor
open Go.RowKit Go.Shelf Go.Maps

set_option maxRecDepth 100000 in
theorem wp_append_bytes {o : Oper} {a : Act} {w : World} {K : Act → World → Prop} {Q : Exit → Act → World → Prop} (s x : Operand)
    (ho : o.op = .call { callee := .builtin .append, args := #[s, x], argTypes := #[28, 28] }) (base : Nat) (v : Value) (n : Nat) (xs : List Value) (hs : a.eval s = v) (hown : w.ownsRow base 5 1 v n xs)
    (xp : Option Addr) (xb : Bts) (c : Nat) (hx : a.eval x = .slice xp xb.length c) (hbs : Bs w xp xb) (h63 : n + xb.length ≤ 4294967296) (hbase : base ≤ w.heap.size)
    (h : ∀ p c' w', w'.ownsRow base 5 1 (.slice p (n + xb.length) c') (n + xb.length) (xs ++ xb.map u8V) → w.grownBy w' v.ownBlock → ((Value.slice p (n + xb.length) c').ownBlock = v.ownBlock ∨ (Value.slice p (n + xb.length) c').ownBlock = some w.heap.size) → K (a.put o.dst (.slice p (n + xb.length) c')) w') : Oper.wp Tryz.prog o a w K Q := by
  obtain ⟨i0, hi, hz0, hz1, hz2⟩ := info_parts info_byte
  have shape : ∀ {w' : World} {v' : Value} {ys : List Value}, w'.ownsRow base 5 1 v' (n + xb.length) ys → ∃ p c', v' = .slice p (n + xb.length) c' := fun hh => by
    rcases hh.2 with ⟨h1, h2⟩ | ⟨g, cap, cur, e, -⟩
    · exact ⟨none, 0, by rw [h2]; exact h1⟩
    · exact ⟨_, _, e⟩
  have own (ad : Addr) (hxp : xp = some ad) (hc : ∀ j u, (xb.map u8V)[j]? = some u → w.cell? (ad.add j) = some u) : Oper.wp Tryz.prog o a w K Q := by
    subst hxp
    obtain ⟨v', w', hr, h1, h2, -, h4⟩ := run_append_own_at (P := Tryz.prog) w base 28 o.type 5 i0 (.int .u8 0) 1 1 Tryz.underlying28 hi hz0 hz1 hz2 rfl (by decide) v n xs hown ad xb.length c (xb.map u8V) (by simp) hc (by simp [u8V, Value.oneCell']) (by unfold maxLen; omega) (by omega) hbase
    obtain ⟨p, c', rfl⟩ := shape h1
    unfold Oper.wp execOp
    simp only [ho, resolve, invoke, builtin, Sem.run_bind, Sem.run_pure, Result.andThen_ok, List.map_toArray, List.map_cons, List.map_nil, hs, hx, hr]
    exact h p c' w' h1 h2 h4
  cases xb with
  | nil =>
    cases xp with
    | some ad => exact own ad rfl fun j u hu => by simp at hu
    | none =>
      have hsrc : Src Tryz.prog i0.size 28 (.slice none 0 c) 0 [] w := Src.ofNil w Tryz.underlying28 c
      have hle : ∃ bb sl sc, v = .slice bb sl sc ∧ sl ≤ sc ∧ sl = n := by
        rcases hown.2 with ⟨h1, h2⟩ | ⟨g, cap, cur, e, -, -, hc, -⟩
        · exact ⟨_, _, _, h1, Nat.le_refl _, h2.symm⟩
        · exact ⟨_, _, _, e, hc, rfl⟩
      obtain ⟨bb, sl, sc, rfl, hle, rfl⟩ := hle
      have hr := run_append_nothing (P := Tryz.prog) w 28 28 o.type 5 i0 Tryz.underlying28 hi bb sl sc hle (.slice none 0 c) hsrc
      unfold Oper.wp execOp
      have hx' : a.eval x = .slice none 0 c := hx
      simp only [ho, resolve, invoke, builtin, Sem.run_bind, Sem.run_pure, Result.andThen_ok, List.map_toArray, List.map_cons, List.map_nil, hs, hx', hr]
      exact h bb sc _ (by simpa using hown) ⟨rfl, rfl, rfl, Nat.le_refl _, fun _ _ _ => rfl⟩ (.inl rfl)
  | cons z r =>
    obtain ⟨bb, bo, hp, hc⟩ := hbs (by simp)
    refine own _ hp fun j u hu => ?_
    rw [List.getElem?_map] at hu
    have hj : j < (z :: r).length := by
      rcases Nat.lt_or_ge j (z :: r).length with h1 | h1
      · exact h1
      · rw [List.getElem?_eq_none h1] at hu; cases hu
    rw [List.getElem?_eq_getElem hj] at hu
    simp only [Option.map_some, Option.some.injEq] at hu
    have := hc j hj
    rw [show ((⟨bb, bo, none⟩ : Addr).add j) = ⟨bb, bo + j, none⟩ by simp only [Addr.add]; split <;> simp_all, this, ← hu]
    simp [u8V, List.getD_eq_getElem?_getD, List.getElem?_eq_getElem hj]

theorem step_append_bytes {ops : Array Oper} {o : Oper} {a : Act} {w : World} {K : Act → World → Prop} {Q : Exit → Act → World → Prop} {E : Prop} (hgd : o.guard = none) (s x : Operand)
    (ho : o.op = .call { callee := .builtin .append, args := #[s, x], argTypes := #[28, 28] }) (base : Nat) (v : Value) (n : Nat) (xs : List Value) (hs : a.eval s = v) (hown : w.ownsRow base 5 1 v n xs)
    (xp : Option Addr) (xb : Bts) (c : Nat) (hx : a.eval x = .slice xp xb.length c) (hbs : Bs w xp xb) (h63 : n + xb.length ≤ 4294967296) (hbase : base ≤ w.heap.size)
    (h : ∀ p c' w', w'.ownsRow base 5 1 (.slice p (n + xb.length) c') (n + xb.length) (xs ++ xb.map u8V) → w.grownBy w' v.ownBlock → ((Value.slice p (n + xb.length) c').ownBlock = v.ownBlock ∨ (Value.slice p (n + xb.length) c').ownBlock = some w.heap.size) → K (a.put o.dst (.slice p (n + xb.length) c')) w') :
    if Region.wanted o (yielded ops a.tmps) = true then Oper.wp Tryz.prog o a w K Q else E := by
  have hw : Region.wanted o (yielded ops a.tmps) = true := by simp [Region.wanted, hgd]
  rw [if_pos hw]
  exact wp_append_bytes s x ho base v n xs hs hown xp xb c hx hbs h63 hbase h

end Go.Proofs.YtfgmmaahbngonaaGreatDoor

/-
  The walk of a reader's Line. Conditions: a reader in memory; at most 2^32 bytes.
-/
namespace Go.Proofs.YtfgmmaahbngonaaGreatDoor
open Go.RowKit Go.Shelf Go.Maps

end Go.Proofs.YtfgmmaahbngonaaGreatDoor

/-
  The walk of stepio.Write to descriptor 1. Condition: a process that runs; lengths.
-/
namespace Go.Proofs.YtfgmmaahbngonaaGreatDoor
open Go.RowKit Go.Shelf Go.Maps

/-- A slice's length. -/
def lenV : Value → Nat
  | .slice _ n _ => n
  | _ => 0

set_option maxRecDepth 100000 in
set_option maxHeartbeats 4000000 in
theorem wrAll_any1 (F : Fx) (M : Nat → Prop) (inp out err xs : Bts) (v : Value) (w : World) (h : PrAt w F M inp out err) (hx : Sl w (fun g => ¬ M g) v xs) (hbig : out.length + xs.length ≤ 4294967296) :
    Calls Tryz.prog 62 #[.pointer (some ⟨F.p, 0, none⟩), .int .i64 1, v] w fun e w' => e = .returned (.int .i64 0) ∧ ∃ M', PrAt w' F M' inp (out ++ xs) err ∧ Mv M M' w w' := by
  by_cases hx0 : xs = []
  · subst hx0
    obtain ⟨p, c, rfl, -, -⟩ := hx.bs
    have H := Lib.hid h
    clear h hx
    go_enter Tryz.func62, Tryz.ntmps62
    go_wp2_with fail
    go_loopw [2, 7, 8] (fun x2 _x7 _x8 wr => x2 = .slice p 0 c ∧ wr = w) (fun _ _ _ _ => 0)
    case atStart => exact ⟨rfl, rfl⟩
    case round =>
      obtain ⟨rfl, rfl⟩ := hrel
      go_wp2_with fail
      go_ret
      refine ⟨rfl, M, ?_, Mv.refl _ _⟩
      rw [List.append_nil]
      exact H.out
  · obtain ⟨g, o, c, rfl, hcap, hg, hN, hc⟩ : ∃ g o c, v = .slice (some ⟨g, o, none⟩) xs.length c ∧ xs.length ≤ c ∧ g < w.heap.size ∧ ¬ M g ∧ ∀ i, i < xs.length → w.cell? ⟨g, o + i, none⟩ = some (.int .u8 (xs.getD i 0).toNat) := by
      rcases hx with ⟨h1, -⟩ | h1
      · exact absurd h1 hx0
      · exact h1
    have hw := write_any1 F M inp out err xs (some ⟨g, o, none⟩) c w h (fun _ => ⟨g, o, rfl, hc⟩) (fun a e => by injection e with e; subst e; exact hN) hcap hx0 hbig
    have hpos : 0 < xs.length := List.length_pos_iff.2 hx0
    have hl1 : (xs.length : Int) ≤ c := by omega
    have hl2 : (0 : Int) ≤ xs.length := by omega
    have hl3 : (xs.length : Int) ≤ xs.length := Int.le_refl _
    have hl4 : decide ((0 : Int) < xs.length) = true := by simp; omega
    clear hx hc h
    go_enter Tryz.func62, Tryz.ntmps62
    go_wp2_with fail
    go_loopw [2, 7, 8] (fun x2 _x7 _x8 wr => (x2 = .slice (some ⟨g, o, none⟩) xs.length c ∧ wr = w) ∨ ((∃ p' c', x2 = .slice p' 0 c') ∧ Hid (∃ M', PrAt wr F M' inp (out ++ xs) err ∧ Mv M M' w wr))) (fun x2 _ _ _ => lenV x2)
    case atStart => exact .inl ⟨rfl, rfl⟩
    case round =>
      rcases hrel with ⟨rfl, rfl⟩ | ⟨⟨p', c', rfl⟩, hf⟩
      · go_wp2_with fail
        refine hw.mono ?_
        rintro e w1 ⟨rfl, hf⟩
        have HF := Lib.hid hf
        clear hf hw
        (go_wp2_with fail) <;> (go_roundw; (case rel => exact .inr ⟨⟨_, _, rfl⟩, HF⟩); (case measure => simp [lenV]; omega))
      · go_wp2_with fail
        go_ret
        exact ⟨rfl, hf.out⟩

end Go.Proofs.YtfgmmaahbngonaaGreatDoor

/-
  The walk of stepio.Write to descriptor 2. Condition: a process that runs; lengths.
-/
namespace Go.Proofs.YtfgmmaahbngonaaGreatDoor
open Go.RowKit Go.Shelf Go.Maps

set_option maxRecDepth 100000 in
set_option maxHeartbeats 4000000 in
theorem wrAll_any2 (F : Fx) (M : Nat → Prop) (inp out err xs : Bts) (v : Value) (w : World) (h : PrAt w F M inp out err) (hx : Sl w (fun g => ¬ M g) v xs) (hbig : err.length + xs.length ≤ 4294967296) :
    Calls Tryz.prog 62 #[.pointer (some ⟨F.p, 0, none⟩), .int .i64 2, v] w fun e w' => e = .returned (.int .i64 0) ∧ ∃ M', PrAt w' F M' inp out (err ++ xs) ∧ Mv M M' w w' := by
  by_cases hx0 : xs = []
  · subst hx0
    obtain ⟨p, c, rfl, -, -⟩ := hx.bs
    have H := Lib.hid h
    clear h hx
    go_enter Tryz.func62, Tryz.ntmps62
    go_wp2_with fail
    go_loopw [2, 7, 8] (fun x2 _x7 _x8 wr => x2 = .slice p 0 c ∧ wr = w) (fun _ _ _ _ => 0)
    case atStart => exact ⟨rfl, rfl⟩
    case round =>
      obtain ⟨rfl, rfl⟩ := hrel
      go_wp2_with fail
      go_ret
      refine ⟨rfl, M, ?_, Mv.refl _ _⟩
      rw [List.append_nil]
      exact H.out
  · obtain ⟨g, o, c, rfl, hcap, hg, hN, hc⟩ : ∃ g o c, v = .slice (some ⟨g, o, none⟩) xs.length c ∧ xs.length ≤ c ∧ g < w.heap.size ∧ ¬ M g ∧ ∀ i, i < xs.length → w.cell? ⟨g, o + i, none⟩ = some (.int .u8 (xs.getD i 0).toNat) := by
      rcases hx with ⟨h1, -⟩ | h1
      · exact absurd h1 hx0
      · exact h1
    have hw := write_any2 F M inp out err xs (some ⟨g, o, none⟩) c w h (fun _ => ⟨g, o, rfl, hc⟩) (fun a e => by injection e with e; subst e; exact hN) hcap hx0 hbig
    have hpos : 0 < xs.length := List.length_pos_iff.2 hx0
    have hl1 : (xs.length : Int) ≤ c := by omega
    have hl2 : (0 : Int) ≤ xs.length := by omega
    have hl3 : (xs.length : Int) ≤ xs.length := Int.le_refl _
    have hl4 : decide ((0 : Int) < xs.length) = true := by simp; omega
    clear hx hc h
    go_enter Tryz.func62, Tryz.ntmps62
    go_wp2_with fail
    go_loopw [2, 7, 8] (fun x2 _x7 _x8 wr => (x2 = .slice (some ⟨g, o, none⟩) xs.length c ∧ wr = w) ∨ ((∃ p' c', x2 = .slice p' 0 c') ∧ Hid (∃ M', PrAt wr F M' inp out (err ++ xs) ∧ Mv M M' w wr))) (fun x2 _ _ _ => lenV x2)
    case atStart => exact .inl ⟨rfl, rfl⟩
    case round =>
      rcases hrel with ⟨rfl, rfl⟩ | ⟨⟨p', c', rfl⟩, hf⟩
      · go_wp2_with fail
        refine hw.mono ?_
        rintro e w1 ⟨rfl, hf⟩
        have HF := Lib.hid hf
        clear hf hw
        (go_wp2_with fail) <;> (go_roundw; (case rel => exact .inr ⟨⟨_, _, rfl⟩, HF⟩); (case measure => simp [lenV]; omega))
      · go_wp2_with fail
        go_ret
        exact ⟨rfl, hf.out⟩

end Go.Proofs.YtfgmmaahbngonaaGreatDoor

/-
  The walks of text.Word, text.Diag. Condition: the error is one of those that there are.
-/
namespace Go.Proofs.YtfgmmaahbngonaaGreatDoor
open Go.RowKit Go.Shelf Go.Maps

/-- What is said of the errors. -/
def wordsL : List Bts := [[101, 114, 114, 111, 114], [110, 111, 32, 115, 117, 99, 104, 32, 102, 105, 108, 101], [102, 105, 108, 101, 32, 101, 120, 105, 115, 116, 115], [110, 111, 116, 32, 97, 32, 100, 105, 114, 101, 99, 116, 111, 114, 121], [105, 115, 32, 97, 32, 100, 105, 114, 101, 99, 116, 111, 114, 121], [100, 105, 114, 101, 99, 116, 111, 114, 121, 32, 110, 111, 116, 32, 101, 109, 112, 116, 121], [110, 111, 32, 115, 112, 97, 99, 101, 32, 108, 101, 102, 116], [105, 110, 112, 117, 116, 47, 111, 117, 116, 112, 117, 116, 32, 101, 114, 114, 111, 114], [98, 114, 111, 107, 101, 110, 32, 112, 105, 112, 101], [105, 110, 116, 101, 114, 114, 117, 112, 116, 101, 100], [110, 111, 116, 32, 110, 111, 119], [98, 97, 100, 32, 100, 101, 115, 99, 114, 105, 112, 116, 111, 114], [116, 111, 111, 32, 109, 97, 110, 121], [98, 97, 100, 32, 110, 97, 109, 101], [116, 111, 111, 32, 100, 101, 101, 112], [98, 117, 115, 121], [105, 110, 118, 97, 108, 105, 100], [98, 97, 100, 32, 97, 114, 103, 117, 109, 101, 110, 116], [108, 105, 110, 101, 32, 116, 111, 111, 32, 108, 111, 110, 103], [117, 115, 97, 103, 101], [98, 97, 100, 32, 114, 101, 103, 117, 108, 97, 114, 32, 101, 120, 112, 114, 101, 115, 115, 105, 111, 110], [98, 97, 100, 32, 115, 99, 114, 105, 112, 116], [110, 111, 116, 32, 102, 111, 117, 110, 100], [115, 97, 109, 101, 32, 102, 105, 108, 101], [98, 97, 100, 32, 115, 121, 110, 116, 97, 120], [110, 111, 116, 32, 97, 32, 110, 117, 109, 98, 101, 114], [110, 111, 116, 32, 105, 110, 32, 111, 114, 100, 101, 114]]
def wordOf (e : Nat) : Bts := wordsL.getD e []
/-- A line about an error. -/
def diagOf (tag op : Bts) (e : Nat) : Bts := tag ++ [58, 32] ++ (if op = [] then [] else op ++ [58, 32]) ++ wordOf e ++ [10]

theorem Blk.there {w : World} {b : Nat} {cs : Array Value} {t : TypeId} (h : Blk w b cs t) (n : Nat) (hn : n ≤ cs.size) : w.there b 0 n := fun j hj => by
  rw [Nat.zero_add, h.cell j (Array.getElem?_eq_getElem (show j < cs.size by omega))]
  exact ⟨rfl, h.free j⟩

set_option maxRecDepth 100000 in
set_option maxHeartbeats 4000000 in
theorem word_any (e : Nat) (he : e < 27) (w : World) : Calls Tryz.prog 153 #[.int .i64 e] w fun x w' => x = .returned (strV (wordOf e)) ∧ Below w.heap.size w w' := by
  have h1 : decide ((e : Int) < 0) = false := by simp
  have h2 : decide ((27 : Int) ≤ e) = false := by simp; omega
  have h3 : (e : Int) < 27 := by omega
  have h4 : (0 : Int) ≤ e := by omega
  have hat : ((wordsL.map strV).toArray)[e]? = some (strV (wordOf e)) := by
    have hl : e < wordsL.length := he
    simp only [List.getElem?_toArray, List.getElem?_map]
    rw [List.getElem?_eq_getElem hl]
    simp [wordOf, List.getD_eq_getElem?_getD, List.getElem?_eq_getElem hl]
  have hinfo : (Tryz.prog.info? 331).map (·.size) = some 27 := by kernel_rfl
  have hone : (wordsL.map strV).toArray.all (·.oneCell') = true := all_oneCell_toArray (by intro v hv; obtain ⟨s, -, rfl⟩ := List.mem_map.1 hv; rfl)
  have HAT := Lib.hid hat
  have HI := Lib.hid hinfo
  have HONE := Lib.hid hone
  clear hat hinfo hone
  obtain ⟨s, hs⟩ : ∃ s, strV (wordOf e) = .string s := ⟨_, rfl⟩
  rw [hs] at HAT ⊢
  go_enter Tryz.func153, Tryz.ntmps153
  go_wp2_with (refine wpList_store_mid rfl 331 _ _ rfl w.heap.size 0 _ rfl rfl (Blk.there (Blk.new w _ _) _ (by decide)) HI.out HONE.out ?_; generalize hW : World.setCells _ w.heap.size 0 _ = w2; refine Hid.out ?_)
  have hb2 : Blk w2 w.heap.size (wordsL.map strV).toArray 331 := by rw [← hW]; exact Blk.setAll (Blk.new w _ _) rfl
  have hbel : Below w.heap.size w w2 := by rw [← hW]; exact (Kept.setCells (S := fun _ => False) (.inr (Nat.le_refl _)) _ 0 _ ((Kept.refl _ w).alloc _)).below
  clear hW
  have hc := hb2.cell e HAT.out
  have HBL := Lib.hid hbel
  clear hb2 hbel
  refine Lib.hid ?_
  go_wp2_with fail
  go_ret
  exact ⟨rfl, HBL.out⟩

/-- A text turned to bytes. -/
theorem conv_facts (l : Bts) (w : World) : ∃ c w1, (convert 9 28 (.string ⟨l.toArray⟩)).run Tryz.prog w = .ok (.slice (some ⟨w.heap.size, 0, none⟩) l.length c) w1 ∧ l.length ≤ c ∧ Below w.heap.size w w1 ∧ Bs w1 (some ⟨w.heap.size, 0, none⟩) l ∧ w.heap.size < w1.heap.size := by
  have hsz : (⟨l.toArray⟩ : ByteArray).size = l.length := by simp [ByteArray.size]
  have h := Lib.run_convert_string_bytes (P := Tryz.prog) w 9 28 5 ⟨l.toArray⟩ Tryz.underlying9 Tryz.underlying28 Tryz.underlying5
  rw [hsz] at h
  refine ⟨_, _, h, ?_, Lib.bytesWorld_below w 5 ⟨l.toArray⟩, fun hl => ⟨_, 0, rfl, fun i hi => ?_⟩, ?_⟩
  · exact grownCap_ge _ _ _ _
  · rw [Nat.zero_add]
    exact Lib.bytesWorld_cell w 5 ⟨l.toArray⟩ i (by rw [hsz]; exact hi)
  · simp [Lib.bytesWorld, World.freeze]

theorem str_app (a b : Bts) : (⟨a.toArray⟩ : ByteArray) ++ ⟨b.toArray⟩ = ⟨(a ++ b).toArray⟩ := by
  apply ByteArray.ext; simp

theorem wordOf_len (e : Nat) : (wordOf e).length ≤ 30 := by
  have h : ∀ x ∈ wordsL, x.length ≤ 30 := by decide
  unfold wordOf
  rw [List.getD_eq_getElem?_getD]
  cases hx : wordsL[e]? with
  | none => simp
  | some x => simpa using h x (List.mem_of_getElem? hx)

set_option maxRecDepth 100000 in
set_option maxHeartbeats 4000000 in
theorem diag_any (tag op : Bts) (e : Nat) (he : e < 27) (h1 : tag.length ≤ 1000000000) (h2 : op.length ≤ 1000000000) (w : World) :
    Calls Tryz.prog 114 #[.string ⟨tag.toArray⟩, .string ⟨op.toArray⟩, .int .i64 e] w fun x w' => ∃ v, x = .returned v ∧ Sl w' (fun g => w.heap.size ≤ g) v (diagOf tag op e) ∧ Below w.heap.size w w' := by
  have hw := word_any e he w
  unfold strV at hw
  have hwl := wordOf_len e
  by_cases hop : op = []
  · subst hop
    have hA : (9223372036854775807 < tag.length + 2 + (wordOf e).length) = False := by simp; omega
    have hB : (9223372036854775807 < tag.length + 2 + (wordOf e).length + 1) = False := by simp; omega
    go_enter Tryz.func114, Tryz.ntmps114
    go_wp2_with fail
    refine hw.mono ?_
    rintro x w1 ⟨rfl, hb1⟩
    obtain ⟨c, w2, hcv, hcl, hb2, hbs, hlt⟩ := conv_facts (diagOf tag [] e) w1
    have heq : (⟨tag.toArray⟩ : ByteArray) ++ ⟨#[58, 32]⟩ ++ ⟨#[]⟩ ++ ⟨(wordOf e).toArray⟩ ++ ⟨#[10]⟩ = ⟨(diagOf tag [] e).toArray⟩ := by
      apply ByteArray.ext; simp [diagOf]
    rw [← heq] at hcv
    have HBS := Lib.hid hbs
    have HB2 := Lib.hid hb2
    have HB1 := Lib.hid hb1
    clear hbs hb1 hb2 heq hw
    go_wp2_with fail
    go_ret
    refine ⟨_, rfl, ?_, HB1.out.trans (HB2.out.mono HB1.out.size)⟩
    have hpos : 0 < (diagOf tag [] e).length := by simp [diagOf]; omega
    obtain ⟨b, o, hq, hc⟩ := HBS.out hpos
    injection hq with hq
    injection hq with hq1 hq2
    subst hq1 hq2
    exact .inr ⟨_, 0, c, rfl, hcl, hlt, HB1.out.size, hc⟩
  · have hne : ((⟨op.toArray⟩ : ByteArray) == ⟨#[]⟩) = false := by rw [str_nil]; cases op with | nil => exact absurd rfl hop | cons _ _ => rfl
    have hem : op.isEmpty = false := by cases op with | nil => exact absurd rfl hop | cons _ _ => rfl
    have hA : (9223372036854775807 < tag.length + 2 + (op.length + 2) + (wordOf e).length) = False := by simp; omega
    have hB : (9223372036854775807 < tag.length + 2 + (op.length + 2) + (wordOf e).length + 1) = False := by simp; omega
    go_enter Tryz.func114, Tryz.ntmps114
    go_wp2_with fail
    refine hw.mono ?_
    rintro x w1 ⟨rfl, hb1⟩
    obtain ⟨c, w2, hcv, hcl, hb2, hbs, hlt⟩ := conv_facts (diagOf tag op e) w1
    have heq : (⟨tag.toArray⟩ : ByteArray) ++ ⟨#[58, 32]⟩ ++ (⟨op.toArray⟩ ++ ⟨#[58, 32]⟩) ++ ⟨(wordOf e).toArray⟩ ++ ⟨#[10]⟩ = ⟨(diagOf tag op e).toArray⟩ := by
      apply ByteArray.ext; simp [diagOf, hop]
    rw [← heq] at hcv
    have HBS := Lib.hid hbs
    have HB2 := Lib.hid hb2
    have HB1 := Lib.hid hb1
    clear hbs hb1 hb2 heq hw
    go_wp2_with fail
    go_ret
    refine ⟨_, rfl, ?_, HB1.out.trans (HB2.out.mono HB1.out.size)⟩
    have hpos : 0 < (diagOf tag op e).length := by simp [diagOf]; omega
    obtain ⟨b, o, hq, hc⟩ := HBS.out hpos
    injection hq with hq
    injection hq with hq1 hq2
    subst hq1 hq2
    exact .inr ⟨_, 0, c, rfl, hcl, hlt, HB1.out.size, hc⟩

end Go.Proofs.YtfgmmaahbngonaaGreatDoor

/-
  The walks of Say, Feed, Open of a dash, Close of descriptor 0. Conditions: a process that runs, with arguments; lengths.
-/
namespace Go.Proofs.YtfgmmaahbngonaaGreatDoor
open Go.RowKit Go.Shelf Go.Maps

theorem strs_cell {w : World} {B : Nat} {v : Value} {l : List Bts} (h : StrsOwn w B v l) (i : Nat) (hi : i < l.length) : ∃ g c, v = .slice (some ⟨g, 0, none⟩) l.length c ∧ l.length ≤ c ∧ B ≤ g ∧ g < w.heap.size ∧ ∀ j, j < l.length → w.cell? ⟨g, j, none⟩ = some (strV (l.getD j [])) := by
  rcases h.2 with ⟨-, h2⟩ | ⟨g, cap, cur, rfl, hb, hblk, hc, r⟩
  · omega
  · refine ⟨g, cap, rfl, hc, hb, lt_of_block hblk, fun j hj => ?_⟩
    have := h.cellAt j (by omega)
    rw [this]
    simp [List.getD_eq_getElem?_getD, hj]

set_option maxRecDepth 100000 in
set_option maxHeartbeats 4000000 in
theorem say_any (F : Fx) (M : Nat → Prop) (inp out err a0 op : Bts) (rest : List Bts) (e : Nat) (he : e < 27) (w : World) (h : PrAt w F M inp out err) (ha : F.args = a0 :: rest) (h1 : a0.length ≤ 1000000000) (h2 : op.length ≤ 1000000000) (hbig : err.length + (diagOf a0 op e).length ≤ 4294967296) :
    Calls Tryz.prog 63 #[.pointer (some ⟨F.p, 0, none⟩), .string ⟨op.toArray⟩, .int .i64 e] w fun x w' => (∃ v, x = .returned v) ∧ ∃ M', PrAt w' F M' inp out (err ++ diagOf a0 op e) ∧ Mv M M' w w' := by
  have hargs := args_any F M inp out err w h
  have hdiag := fun w => diag_any a0 op e he h1 h2 w
  rw [ha] at hargs
  have H := Lib.hid h
  clear h
  go_enter Tryz.func63, Tryz.ntmps63
  go_wp2_with fail
  refine hargs.mono ?_
  rintro x w1 ⟨v, rfl, ho1, hb1⟩
  obtain ⟨g, c, rfl, -, -, -, hc⟩ := strs_cell ho1 0 (by simp)
  have c0 := hc 0 (by simp)
  simp only [List.getD_cons_zero, strV] at c0
  have hlen : (0 : Int) < ((a0 :: rest).length : Nat) := by simp
  have HB1 := Lib.hid hb1
  clear hargs ho1 hc hb1
  generalize (a0 :: rest).length = n at *
  go_wp2_with fail
  refine (hdiag _).mono ?_
  rintro x w2 ⟨v, rfl, hs2, hb2⟩
  obtain ⟨pv, cv, rfl, -⟩ := hs2.bs
  have hb12 := HB1.out.trans (hb2.mono HB1.out.size)
  have hw := wrAll_any2 F M inp out err (diagOf a0 op e) _ w2 (H.out.below hb12) (hs2.mono fun g _ hg em => by
    have h1 : w1.heap.size ≤ g := hg
    have := HB1.out.size
    have := H.out.lt g em
    omega) hbig
  have HB := Lib.hid hb12
  clear hs2 hb2 hb12 hdiag c0
  go_wp2_with fail
  refine hw.mono ?_
  rintro x w3 ⟨rfl, M', hp3, hm3⟩
  have HP3 := Lib.hid hp3
  have HM3 := Lib.hid hm3
  clear hp3 hm3 hw
  go_wp2_with fail
  refine bodyPost_end (results_none rfl _ _ _) rfl ⟨⟨_, rfl⟩, M', HP3.out, (Mv.below HB.out).trans HM3.out⟩

end Go.Proofs.YtfgmmaahbngonaaGreatDoor

/-
  The walks of proc.Go, of attempt and its deferred closure. Condition on main: what it comes to.
-/
namespace Go.Proofs.YtfgmmaahbngonaaGreatDoor
open Go.RowKit Go.Shelf Go.Maps

/-- A machine. -/
def MachAt (W : World) (mb p g : Nat) (done : Bool) (st : Int) : Prop := Blk W mb #[.pointer (some ⟨p, 0, none⟩), .func (.func g) #[] #[], .bool done, .int .i64 st] 79

set_option maxRecDepth 100000 in
set_option maxHeartbeats 4000000 in
theorem go_any (F : Fx) (M : Nat → Prop) (inp out err : Bts) (g : Nat) (w : World) (h : PrAt w F M inp out err) :
    Calls Tryz.prog 32 #[.pointer (some ⟨F.p, 0, none⟩), .func (.func g) #[] #[]] w fun e w' => e = .returned (.pointer (some ⟨w.heap.size, 0, none⟩)) ∧ MachAt w' w.heap.size F.p g false 0 ∧ Below w.heap.size w w' := by
  obtain ⟨hd, pk, st, hp⟩ := h.proc
  have c13 := new_cell (hp.cell 13 (v := .bool true) rfl) (.cells #[.pointer (some ⟨F.p, 0, none⟩), .func (.func g) #[] #[], .bool false, .int .i64 0] 79)
  clear h hp
  go_enter Tryz.func32, Tryz.ntmps32
  go_wp2_with fail
  go_ret
  exact ⟨rfl, Blk.new _ _ _, (Below.refl _ _).alloc (Nat.le_refl _) _⟩

theorem attempt_idle (p q : Addr) (w : World) :
    CallsD Tryz.prog 76 #[.pointer (some p), .pointer (some q)] .returning w fun e u' w' => e = .returned (.tuple #[]) ∧ u' = .returning ∧ w' = w := by
  refine callsD_of_wpS Tryz.func76 rfl fun c₀ cs hu => ?_
  apply wpS_seq
  apply wpS_region
  simp [wpOpsS, go_sem, recoverD, hu, Tryz.ntmps76, Exit.thenS]
  refine wpS_of_wp ?_
  change Code.wp _ _ _ { tmps := #[.pointer (some p), .pointer (some q), undef, undef, undef, undef, .nilIface, undef, undef, undef, undef, undef, undef, undef, undef, undef, undef, undef], defers := [] } _
  go_wp2_with fail
  cases c₀
  simp_all [bodyPostS, results, Tryz.results76]

end Go.Proofs.YtfgmmaahbngonaaGreatDoor

/-
  The walk of attempt. Condition on main: what it comes to.
-/
namespace Go.Proofs.YtfgmmaahbngonaaGreatDoor
open Go.RowKit Go.Shelf Go.Maps

set_option maxRecDepth 100000 in
set_option maxHeartbeats 4000000 in
theorem attempt_any (F : Fx) (M : Nat → Prop) (inp out err : Bts) (g mb : Nat) (st0 : Int) (w : World) (h : PrAt w F M inp out err) (hmb : MachAt w mb F.p g false st0) (hn0 : F.n0 ≤ mb) (hM : ¬ M mb)
    (hent : ∀ (args : Array Value) (w : World), (callFunc g args).run Tryz.prog w = .ok (.enter g args) w) (Q : Int → Bts → Bts → Prop)
    (hmain : ∀ W, PrAt W F M inp out err → Calls Tryz.prog g #[.pointer (some ⟨F.p, 0, none⟩)] W fun e W' => ∃ st inp' out' err' M', e = .returned (.int .i64 st) ∧ PrAt W' F M' inp' out' err' ∧ Mv M M' W W' ∧ Q st out' err') :
    Calls Tryz.prog 48 #[.pointer (some ⟨mb, 0, none⟩)] w fun e w' => e = .returned (.bool true) ∧ ∃ st inp' out' err' M', PrAt w' F M' inp' out' err' ∧ MachAt w' mb F.p g false st ∧ MvR M M' mb w w' ∧ Q st out' err' := by
  have hmf : ∀ (fn : Fn) (first cap : Array Value) (w : World), (Instr.makeFunc fn first cap).run Tryz.prog w = .ok (.func fn first cap) w := fun _ _ _ _ => rfl
  obtain ⟨w1, hw1⟩ : ∃ w1, (w.alloc (.cells #[.pointer (some ⟨mb, 0, none⟩)] 75)).alloc (.cells #[.bool false] 4) = w1 := ⟨_, rfl⟩
  have hb1 : Below w.heap.size w w1 := by rw [← hw1]; exact ((Below.refl _ _).alloc (Nat.le_refl _) _).alloc (by simp) _
  have hs1 : w1.heap.size = w.heap.size + 1 + 1 := by rw [← hw1]; simp
  have k0 : Blk w1 w.heap.size #[.pointer (some ⟨mb, 0, none⟩)] 75 := by rw [← hw1]; exact (Blk.new _ _ _).alloc _
  have k1 : Blk w1 (w.heap.size + 1) #[.bool false] 4 := by
    rw [← hw1]
    have := Blk.new (w.alloc (.cells #[.pointer (some ⟨mb, 0, none⟩)] 75)) #[.bool false] 4
    simpa only [World.size_alloc] using this
  have hmlt := hmb.lt
  have hm1 : MachAt w1 mb F.p g false st0 := hmb.keep hb1 hmlt
  have hnew : ∀ k, w.heap.size ≤ k → ¬ M k := fun k hk e => by have := h.lt k e; omega
  have a0 := k0.cell 0 (v := .pointer (some ⟨mb, 0, none⟩)) rfl
  have a1 := hm1.cell 0 (v := .pointer (some ⟨F.p, 0, none⟩)) rfl
  have a2 := hm1.cell 1 (v := .func (.func g) #[] #[]) rfl
  have HMAIN := Lib.hid (hmain w1.drew ((h.below hb1).below (below_drew2 w1)))
  have H := Lib.hid h
  have HB1 := Lib.hid hb1
  have HK1 := Lib.hid k1
  have HK0 := Lib.hid k0
  have HMB := Lib.hid hm1
  have HNEW := Lib.hid hnew
  clear h hb1 k0 k1 hm1 hmb hmain hnew
  go_enter_defers Tryz.func48, Tryz.ntmps48
  go_wp2_with fail
  try rw [hw1]
  clear hw1
  go_region_held3 (fun w' => w'.cell? ⟨w.heap.size, 0, none⟩ = some (.pointer (some ⟨mb, 0, none⟩)) ∧ w'.cell? ⟨mb, 0, none⟩ = some (.pointer (some ⟨F.p, 0, none⟩)) ∧ w'.cell? ⟨mb, 1, none⟩ = some (.func (.func g) #[] #[])) (first | go_keep | exact HS.out | exact HS2.out)
    ((go_at_fn g; refine HMAIN.out.mono ?_; rintro e w4 ⟨st, inp', out', err', M', rfl, hp4, hm4, hq⟩; have hK := (Kept.of_below (S := M) (below_drew2 w1)).trans hm4.kept; have hmb4 : MachAt w4 mb F.p g false st0 := Blk.kept HMB.out hK hM; have hk4 := HK0.out.kept hK (HNEW.out _ (Nat.le_refl _)); have HS := Lib.hid (show w4.cell? ⟨w.heap.size, 0, none⟩ = some (.pointer (some ⟨mb, 0, none⟩)) ∧ w4.cell? ⟨mb, 0, none⟩ = some (.pointer (some ⟨F.p, 0, none⟩)) ∧ w4.cell? ⟨mb, 1, none⟩ = some (.func (.func g) #[] #[]) from ⟨hk4.cell 0 rfl, hmb4.cell 0 rfl, hmb4.cell 1 rfl⟩); have hmb5 : MachAt (w4.setCell ⟨mb, 3, none⟩ (.int .i64 st)) mb F.p g false st := Blk.set hmb4 3 _; have hne : w.heap.size ≠ mb := (by omega); have hk5 := hk4.setOther (a := ⟨mb, 3, none⟩) hne (.int .i64 st); have HS2 := Lib.hid (show (w4.setCell ⟨mb, 3, none⟩ (.int .i64 st)).cell? ⟨w.heap.size, 0, none⟩ = some (.pointer (some ⟨mb, 0, none⟩)) ∧ (w4.setCell ⟨mb, 3, none⟩ (.int .i64 st)).cell? ⟨mb, 0, none⟩ = some (.pointer (some ⟨F.p, 0, none⟩)) ∧ (w4.setCell ⟨mb, 3, none⟩ (.int .i64 st)).cell? ⟨mb, 1, none⟩ = some (.func (.func g) #[] #[]) from ⟨hk5.cell 0 rfl, hmb5.cell 0 rfl, hmb5.cell 1 rfl⟩); have m3 := hmb4.cell 3 (v := .int .i64 st0) rfl; have mf3 := hmb4.free 3; have HP4 := Lib.hid hp4; have HM4 := Lib.hid hm4; have HQ := Lib.hid hq; have HMB5 := Lib.hid hmb5; have HKK := Lib.hid hK; clear hp4 hm4 hq hmb4 hmb5 hk4 hk5 hK))
  obtain ⟨w5, hw5⟩ : ∃ w5, w4.setCell ⟨mb, 3, none⟩ (.int .i64 st) = w5 := ⟨_, rfl⟩
  have hk5 : Kept (fun j => j = mb) w4 w5 := by rw [← hw5]; exact (Kept.refl (fun j => j = mb) _).setCell (.inl rfl) 3 _
  have hm5 : MachAt w5 mb F.p g false st := by rw [← hw5]; exact HMB5.out
  rw [hw5]
  have hk45 := (HK1.out.kept HKK.out (HNEW.out _ (by omega))).kept hk5 (by omega)
  have hM' : ¬ M' mb := HM4.out.not (by have := HMB.out.lt; simpa using this) hM
  have hp5 : PrAt w5 F M' inp' out' err' := HP4.out.kept hk5 fun j hj => by subst hj; exact ⟨hn0, hM'⟩
  have o1 := hk45.cell 0 (v := .bool false) rfl
  have of1 := hk45.free 0
  have hlast := hk45.set 0 (.bool true)
  have hk6 : Kept (fun j => j = w.heap.size + 1) w5 (w5.setCell ⟨w.heap.size + 1, 0, none⟩ (.bool true)) := (Kept.refl (fun j => j = w.heap.size + 1) _).setCell (.inl rfl) 0 _
  have hm1' : ∀ k, w.heap.size ≤ k → k < w1.heap.size → ¬ M' k := fun k hk hk2 => HM4.out.not (by simpa using hk2) (HNEW.out k hk)
  have hp6 := hp5.kept hk6 fun j hj => by subst hj; exact ⟨by omega, hm1' _ (by omega) (by omega)⟩
  have hm6 : MachAt _ mb F.p g false st := Blk.kept hm5 hk6 (by omega)
  have hmv : MvR M M' mb w (w5.setCell ⟨w.heap.size + 1, 0, none⟩ (.bool true)) := by
    have h1 : Kept (fun j => M j ∨ j = mb) w w4 := (Kept.of_below HB1.out).trans (HKK.out.mono fun _ _ h => .inl h)
    have h2 : Kept (fun j => M j ∨ j = mb) w w5 := h1.trans (hk5.mono fun _ _ h => .inr h)
    exact ⟨h2.trans' hk6 fun k hk e => by omega, fun j hj => by
      rcases HM4.out.new j hj with h | h
      · exact .inl h
      · have : w1.heap.size ≤ j := h
        exact .inr (by omega)⟩
  have HP6 := Lib.hid hp6
  have HM6 := Lib.hid hm6
  have HMV := Lib.hid hmv
  have c6 := hlast.cell 0 (v := .bool true) rfl
  have HC6 := Lib.hid c6
  clear hw5 hk5 hm5 hk45 hM' hp5 hlast hk6 hm1' hp6 hm6 hmv c6 HMB5 HS HS2 HP4 HM4 m3 mf3
  go_wp2_with fail
  refine leaves_cons (f := 76) (args := #[.pointer (some ⟨w.heap.size + 1, 0, none⟩), .pointer (some ⟨w.heap.size, 0, none⟩)]) (by simp) (by simp [go_sem]) ?_
  refine (attempt_idle ⟨w.heap.size + 1, 0, none⟩ ⟨w.heap.size, 0, none⟩ _).mono ?_
  rintro e u' w9 ⟨rfl, rfl, rfl⟩
  refine ⟨.bool true, by simp [results, Tryz.results48, go_sem, HC6.out], ?_⟩
  exact ⟨rfl, st, inp', out', err', M', HP6.out, HM6.out, HMV.out, HQ.out⟩

end Go.Proofs.YtfgmmaahbngonaaGreatDoor

/-
  The walk of Table.Free. Condition: the table has a source and two sinks.
-/
namespace Go.Proofs.YtfgmmaahbngonaaGreatDoor
open Go.RowKit Go.Shelf Go.Maps

/-- What a descriptor has, so many of them being closed. -/
def tv (i j : Nat) (v : Value) : Value := if j < i then .nilIface else v

set_option maxRecDepth 100000 in
set_option maxHeartbeats 4000000 in
theorem free_any (tb k s0 s1 s2 : Nat) (w : World) (ht : TabAt w tb k (thV 122 s0) (thV 126 s1) (thV 126 s2)) :
    Calls Tryz.prog 77 #[.pointer (some ⟨tb, 0, none⟩)] w fun e w' => (∃ v, e = .returned v) ∧ TabAt w' tb k .nilIface .nilIface .nilIface ∧ Kept (fun j => j = tb) w w' := by
  have hf := fds_any tb k _ _ _ _ _ _ w ht
  have htlt := ht.lt
  have HT := Lib.hid ht
  clear ht
  go_enter Tryz.func77, Tryz.ntmps77
  go_wp2_with fail
  refine hf.mono ?_
  rintro e w1 ⟨v, rfl, hown, hb1⟩
  obtain ⟨g, c, rfl⟩ := own_slice (n := 2) hown
  have hg : w.heap.size ≤ g ∧ g < w1.heap.size := hown.lt g rfl
  have e0 := hown.cellAt 0 (by decide)
  have e1 := hown.cellAt 1 (by decide)
  have e2 := hown.cellAt 2 (by decide)
  have ht1 := HT.out.keep hb1 htlt
  have HT1 := Lib.hid ht1
  have HB1 := Lib.hid hb1
  clear hf hown ht1 hb1
  have HC : Hid (w1.cell? ⟨g, 0, none⟩ = some (.int .i64 0) ∧ w1.cell? ⟨g, 1, none⟩ = some (.int .i64 1) ∧ w1.cell? ⟨g, 2, none⟩ = some (.int .i64 2)) := Lib.hid ⟨e0, e1, e2⟩
  clear e0 e1 e2
  go_wp2_with fail
  go_loopw [3, 7] (fun _x3 i wr => ∃ n : Nat, n ≤ 3 ∧ i = .int .i64 n ∧ Hid (TabAt wr tb k (tv n 0 (thV 122 s0)) (tv n 1 (thV 126 s1)) (tv n 2 (thV 126 s2))) ∧ Hid (Kept (fun j => j = tb) w1 wr)) (fun _ i _ => 3 - (intOf i).toNat)
  case atStart => exact ⟨0, by decide, rfl, HT1, Lib.hid (Kept.refl _ _)⟩
  case round =>
    obtain ⟨n, hn, rfl, htr, hkr⟩ := hrel
    have hgt : g ≠ tb := by omega
    have hcr : ∀ j v, w1.cell? ⟨g, j, none⟩ = some v → wr.cell? ⟨g, j, none⟩ = some v := fun j v hv => (World.cell?_of_block (hkr.out.block g hg.2 hgt)).trans hv
    obtain ⟨d0, d1, d2⟩ := HC.out
    have c0 := hcr 0 _ d0
    have c1 := hcr 1 _ d1
    have c2 := hcr 2 _ d2
    clear hcr d0 d1 d2
    obtain rfl | rfl | rfl | rfl : n = 0 ∨ n = 1 ∨ n = 2 ∨ n = 3 := by omega
    · have hs := setNil_any tb k 0 (by decide) _ (.inl rfl) s0 wr (htr.out.cell 0 rfl) (htr.out.cell 1 rfl) (htr.out.free 1)
      go_wp2_with fail
      refine hs.mono ?_
      rintro e w2 ⟨⟨u, rfl⟩, rfl⟩
      go_wp2_with fail
      go_roundw
      case rel => exact ⟨1, by decide, by go_num, Lib.hid (htr.out.set 1 .nilIface), Lib.hid (hkr.out.setCell (.inl rfl) 1 _)⟩
      case measure => simp [intOf]
    · have hs := setNil_any tb k 1 (by decide) _ (.inr rfl) s1 wr (htr.out.cell 0 rfl) (htr.out.cell 2 rfl) (htr.out.free 2)
      go_wp2_with fail
      refine hs.mono ?_
      rintro e w2 ⟨⟨u, rfl⟩, rfl⟩
      go_wp2_with fail
      go_roundw
      case rel => exact ⟨2, by decide, by go_num, Lib.hid (htr.out.set 2 .nilIface), Lib.hid (hkr.out.setCell (.inl rfl) 2 _)⟩
      case measure => simp [intOf]
    · have hs := setNil_any tb k 2 (by decide) _ (.inr rfl) s2 wr (htr.out.cell 0 rfl) (htr.out.cell 3 rfl) (htr.out.free 3)
      go_wp2_with fail
      refine hs.mono ?_
      rintro e w2 ⟨⟨u, rfl⟩, rfl⟩
      go_wp2_with fail
      go_roundw
      case rel => exact ⟨3, by decide, by go_num, Lib.hid (htr.out.set 3 .nilIface), Lib.hid (hkr.out.setCell (.inl rfl) 3 _)⟩
      case measure => simp [intOf]
    · go_wp2_with fail
      refine bodyPost_end (results_none rfl _ _ _) rfl ⟨⟨_, rfl⟩, htr.out, (Kept.of_below HB1.out).trans hkr.out⟩

end Go.Proofs.YtfgmmaahbngonaaGreatDoor

/-
  The walks of ended and goOn. Condition on main: what it comes to.
-/
namespace Go.Proofs.YtfgmmaahbngonaaGreatDoor
open Go.RowKit Go.Shelf Go.Maps

/-- What stands behind a run's end. -/
structure EndAt (W : World) (F : Fx) (out err : Bts) : Prop where
  tree : TreeAt W F.t F.r F.a F.b
  kern : KernAt W F.k F.t ((2 + 1 : Nat) : Int) F.m
  things : W.ownsMap Tryz.prog 3 thElem F.m 3 (thD3 F)
  snk : ∃ v1 v2, Blk W F.s1 #[v1] 127 ∧ Blk W F.s2 #[v2] 127 ∧ W.ownsRow 0 5 1 v1 out.length (out.map u8V) ∧ W.ownsRow 0 5 1 v2 err.length (err.map u8V)
  proc : ∃ held peak steps : Int, ∃ may : Bool, ProcAt W F.p F.k F.tb F.av F.buf F.line F.run held peak may true steps F.al

theorem PrAt.ends {W W' : World} {F : Fx} {M S : Nat → Prop} {inp out err : Bts} (h : PrAt W F M inp out err) (hk : Kept S W W') (hS : ∀ j, S j → j = F.tb ∨ (F.n0 ≤ j ∧ ¬ M j)) : EndAt W' F out err := by
  obtain ⟨hf, -, ⟨v1, v2, b1, b2, o1, o2, d1, d2⟩, ⟨hd, pk, st, hp⟩, mp, m0, m1, m2, di, lt, n0, li, bg⟩ := h
  have hM : ∀ j, M j → ¬ S j := fun j hj hs => by
    rcases hS j hs with h | h
    · exact hf.oldTb.2 (h ▸ hj)
    · exact h.2 hj
  have hO : ∀ j, j < F.n0 → j ≠ F.tb → ¬ S j := fun j hj hne hs => by
    rcases hS j hs with h | h
    · exact hne h
    · omega
  have hne : ∀ {b : Nat} {cs : Array Value} {t : TypeId}, Blk W b cs t → t ≠ 115 → b ≠ F.tb := fun hb ht e => by
    subst e
    have h2 : W.heap[F.tb]? = some (.cells _ 115 (0, 0)) := hf.tab
    rw [hb] at h2
    injection h2 with h2
    injection h2 with _ h2
    exact ht h2
  have hne2 : ∀ {b : Nat} {es : Array MapEntry} {c : Nat}, W.heap[b]? = some (.map es c) → b ≠ F.tb := fun hb e => by
    subst e
    have h2 : W.heap[F.tb]? = some (.cells _ 115 (0, 0)) := hf.tab
    rw [hb] at h2
    injection h2 with h2
    cases h2
  refine ⟨⟨hf.tree.1.kept hk (hO _ hf.oldT.1 (hne hf.tree.1 (by decide))), hf.tree.2.1.kept hk (hO _ hf.oldR.1 (hne hf.tree.2.1 (by decide))), (hk.block _ (lt_of_heap hf.tree.2.2.1) (hO _ hf.oldA.1 (hne2 hf.tree.2.2.1))).trans hf.tree.2.2.1, (hk.block _ (lt_of_heap hf.tree.2.2.2) (hO _ hf.oldB.1 (hne2 hf.tree.2.2.2))).trans hf.tree.2.2.2⟩, Blk.kept hf.kern hk (hO _ hf.oldK.1 (hne hf.kern (by decide))), map_same hf.things (hk.block _ hf.things.lt (hO _ hf.oldM.1 ?_)), ⟨v1, v2, b1.kept hk (hM _ m1), b2.kept hk (hM _ m2), own_kept o1 hk fun j hj => hM _ (d1 j hj).1, own_kept o2 hk fun j hj => hM _ (d2 j hj).1⟩, ⟨hd, pk, st, true, Blk.kept hp hk (hM _ mp)⟩⟩
  obtain ⟨es, clock, hb, -⟩ := hf.things
  exact hne2 hb

set_option maxRecDepth 100000 in
set_option maxHeartbeats 4000000 in
theorem ended_any (F : Fx) (M : Nat → Prop) (inp out err : Bts) (g mb : Nat) (st0 : Int) (w : World) (h : PrAt w F M inp out err) (hmb : MachAt w mb F.p g false st0) (hn0 : F.n0 ≤ mb) (hM : ¬ M mb) :
    Calls Tryz.prog 49 #[.pointer (some ⟨mb, 0, none⟩)] w fun e w' => (∃ v, e = .returned v) ∧ EndAt w' F out err ∧ MachAt w' mb F.p g true st0 ∧ Kept (fun j => M j ∨ j = mb ∨ j = F.tb) w w' := by
  have hpm : F.p ≠ mb := fun e => hM (e ▸ h.mp)
  have hmp : mb ≠ F.p := hpm.symm
  have m0 := hmb.cell 0 (v := .pointer (some ⟨F.p, 0, none⟩)) rfl
  have m2 := hmb.cell 2 (v := .bool false) rfl
  have mf2 := hmb.free 2
  have H := Lib.hid h
  have HMB := Lib.hid hmb
  clear h hmb
  go_enter Tryz.func49, Tryz.ntmps49
  go_wp2_with fail
  obtain ⟨w1, hw1⟩ : ∃ w1, w.setCell ⟨mb, 2, none⟩ (.bool true) = w1 := ⟨_, rfl⟩
  have hm1 : MachAt w1 mb F.p g true st0 := by rw [← hw1]; exact Blk.set HMB.out 2 _
  have hk1 : Kept (fun j => j = mb) w w1 := by rw [← hw1]; exact (Kept.refl (fun j => j = mb) _).setCell (.inl rfl) 2 _
  have hp1 := H.out.kept hk1 fun j hj => by subst hj; exact ⟨hn0, hM⟩
  rw [hw1]
  obtain ⟨hd, pk, st, hpp⟩ := hp1.proc
  have n0 := hm1.cell 0 (v := .pointer (some ⟨F.p, 0, none⟩)) rfl
  have c8 := hpp.cell 8 (v := .int .i64 hd) rfl
  have f8 := hpp.free 8
  have c10 := hpp.cell 10 (v := .slice none 0 0) rfl
  have f10 := hpp.free 10
  have HP1 := Lib.hid hp1
  have HM1 := Lib.hid hm1
  have HK1 := Lib.hid hk1
  have HPP := Lib.hid hpp
  clear hp1 hm1 hk1 hpp hw1 m0 m2 mf2
  go_region_held3 (fun w' => w'.cell? ⟨mb, 0, none⟩ = some (.pointer (some ⟨F.p, 0, none⟩))) (first | go_keep) (fail)
  obtain ⟨w2, hw2⟩ : ∃ w2, ((w1.setCell ⟨F.p, 8, none⟩ (.int .i64 0)).setCell ⟨F.p, 10, none⟩ (.slice none 0 0)).drew = w2 := ⟨_, rfl⟩
  have hk2 : Kept (fun j => j = F.p) w1 w2 := by rw [← hw2]; exact (((Kept.refl (fun j => j = F.p) _).setCell (.inl rfl) 8 _).setCell (.inl rfl) 10 _).drew
  have hpp2 : ProcAt w2 F.p F.k F.tb F.av F.buf F.line F.run 0 pk true true st F.al := by rw [← hw2]; exact ((Blk.set HPP.out 8 _).set 10 _).drew
  rw [hw2]
  have hp2 := HP1.out.turn hk2 hpp2
  have hm2 : MachAt w2 mb F.p g true st0 := Blk.kept HM1.out hk2 hmp
  have q0 := hm2.cell 0 (v := .pointer (some ⟨F.p, 0, none⟩)) rfl
  have q1 := hpp2.cell 1 (v := .pointer (some ⟨F.tb, 0, none⟩)) rfl
  have hf := free_any F.tb F.k F.s0 F.s1 F.s2 w2 hp2.fix.tab
  have hmt : mb ≠ F.tb := by have := hp2.fix.oldTb.1; omega
  have HP2 := Lib.hid hp2
  have HM2 := Lib.hid hm2
  have HK2 := Lib.hid hk2
  clear hw2 hk2 hpp2 hp2 hm2 c8 f8 c10 f10 n0
  go_wp2_with fail
  refine hf.mono ?_
  rintro e w3 ⟨⟨u, rfl⟩, -, hk3⟩
  have HK3 := Lib.hid hk3
  clear hf hk3
  go_wp2_with fail
  refine bodyPost_end (results_none rfl _ _ _) rfl ⟨⟨_, rfl⟩, HP2.out.ends HK3.out fun j hj => .inl hj, Blk.kept HM2.out HK3.out hmt, ?_⟩
  exact ((HK1.out.mono fun _ _ h => .inr (.inl h)).trans (HK2.out.mono fun _ _ h => .inl (h ▸ H.out.mp))).trans (HK3.out.mono fun _ _ h => .inr (.inr h))

set_option maxRecDepth 100000 in
set_option maxHeartbeats 4000000 in
theorem goOn_any (F : Fx) (M : Nat → Prop) (inp out err : Bts) (g mb : Nat) (st0 : Int) (w : World) (h : PrAt w F M inp out err) (hmb : MachAt w mb F.p g false st0) (hn0 : F.n0 ≤ mb) (hM : ¬ M mb)
    (hent : ∀ (args : Array Value) (w : World), (callFunc g args).run Tryz.prog w = .ok (.enter g args) w) (Q : Int → Bts → Bts → Prop)
    (hmain : ∀ W, PrAt W F M inp out err → Calls Tryz.prog g #[.pointer (some ⟨F.p, 0, none⟩)] W fun e W' => ∃ st inp' out' err' M', e = .returned (.int .i64 st) ∧ PrAt W' F M' inp' out' err' ∧ Mv M M' W W' ∧ Q st out' err') :
    Calls Tryz.prog 27 #[.pointer (some ⟨mb, 0, none⟩)] w fun e w' => (∃ v, e = .returned v) ∧ ∃ st out' err', EndAt w' F out' err' ∧ MachAt w' mb F.p g true st ∧ Kept (fun j => M j ∨ j = mb ∨ j = F.tb) w w' ∧ Q st out' err' := by
  have hpm : F.p ≠ mb := fun e => hM (e ▸ h.mp)
  have hmp : mb ≠ F.p := hpm.symm
  obtain ⟨hd, pk, st, hpp⟩ := h.proc
  have n0 := hmb.cell 0 (v := .pointer (some ⟨F.p, 0, none⟩)) rfl
  have c8 := hpp.cell 8 (v := .int .i64 hd) rfl
  have f8 := hpp.free 8
  have c11 := hpp.cell 11 (v := .int .i64 0) rfl
  have f11 := hpp.free 11
  have H := Lib.hid h
  have HMB := Lib.hid hmb
  have HPP := Lib.hid hpp
  clear h hmb hpp
  go_enter Tryz.func27, Tryz.ntmps27
  go_wp2_with fail
  go_region_held3 (fun w' => w'.cell? ⟨mb, 0, none⟩ = some (.pointer (some ⟨F.p, 0, none⟩))) (first | go_keep) (fail)
  obtain ⟨w2, hw2⟩ : ∃ w2, ((w.setCell ⟨F.p, 11, none⟩ (.int .i64 0)).setCell ⟨F.p, 8, none⟩ (.int .i64 0)).drew = w2 := ⟨_, rfl⟩
  have hk2 : Kept (fun j => j = F.p) w w2 := by rw [← hw2]; exact (((Kept.refl (fun j => j = F.p) _).setCell (.inl rfl) 11 _).setCell (.inl rfl) 8 _).drew
  have hpp2 : ProcAt w2 F.p F.k F.tb F.av F.buf F.line F.run 0 pk true true st F.al := by rw [← hw2]; exact ((Blk.set HPP.out 11 _).set 8 _).drew
  rw [hw2]
  have hp2 := H.out.turn hk2 hpp2
  have hm2 : MachAt w2 mb F.p g false st0 := Blk.kept HMB.out hk2 hmp
  have hat := attempt_any F M inp out err g mb st0 w2 hp2 hm2 hn0 hM hent Q hmain
  have HK2 := Lib.hid hk2
  clear hw2 hk2 hpp2 hp2 hm2 c8 f8 c11 f11 n0 hmain
  go_wp2_with fail
  refine hat.mono ?_
  rintro e w3 ⟨rfl, st3, inp3, out3, err3, M3, hp3, hm3, hv3, hq⟩
  have hM3 : ¬ M3 mb := fun e => by
    rcases hv3.2 mb e with h | h
    · exact hM h
    · have := (Blk.kept HMB.out HK2.out hmp).lt; omega
  have hen := ended_any F M3 inp3 out3 err3 g mb st3 w3 hp3 hm3 hn0 hM3
  have HV3 := Lib.hid hv3
  have HQ := Lib.hid hq
  clear hat hp3 hm3 hv3 hq
  go_wp2_with fail
  refine hen.mono ?_
  rintro e w4 ⟨⟨u, rfl⟩, he4, hm4, hk4⟩
  have HE4 := Lib.hid he4
  have HM4 := Lib.hid hm4
  have HK4 := Lib.hid hk4
  clear hen he4 hm4 hk4
  go_wp2_with fail
  refine bodyPost_end (results_none rfl _ _ _) rfl ⟨⟨_, rfl⟩, st3, out3, err3, HE4.out, HM4.out, ?_, HQ.out⟩
  have h1 : Kept (fun j => M j ∨ j = mb ∨ j = F.tb) w w3 := (HK2.out.mono fun _ _ h => .inl (h ▸ H.out.mp)).trans (HV3.out.1.mono fun _ _ h => h.elim .inl fun h => .inr (.inl h))
  exact h1.trans' HK4.out fun k hk e => by
    rcases e with e | e | e
    · rcases HV3.out.2 k e with h | h
      · exact .inl h
      · have := HK2.out.size; omega
    · exact .inr (.inl e)
    · exact .inr (.inr e)

end Go.Proofs.YtfgmmaahbngonaaGreatDoor
