/-
  Texts of this seat put together: Io, Spec, V1, T1, T2, T3.
-/
import Derived.Lib.Small
import Derived.Test.YtbpcfjoebfbjmaaGreatDoorQ3
import Derived.RangeFuncNested
import Derived.RangeFuncBound
import Derived.RangeFuncCalls
import Derived.RangeFuncLeaves
import Derived.Shelf.Abstract
import Derived.Shelf.RegionOpen
import Derived.OwnWalkIn
import Derived.TacticsInMore
import Derived.LoopNIn
import Derived.LoopIn

/-
  Lines of bytes, as plain functions. No program in sight. No condition: definitions and their laws.
-/
namespace Go.Proofs.YtbpcfjoebfbjmaaGreatDoor.Wi
open Go

abbrev Bytes := List UInt8

/-- The next line, did it have a feed, what is left. -/
def lineOf : Bytes → Bytes × Bool × Bytes
  | [] => ([], false, [])
  | c :: r => if c = 10 then ([], true, r) else (c :: (lineOf r).1, (lineOf r).2.1, (lineOf r).2.2)
def feedOf (b : Bool) : Bytes := if b then [10] else []

theorem lineOf_skip (L t : Bytes) (h : ∀ c ∈ L, c ≠ 10) : lineOf (L ++ t) = (L ++ (lineOf t).1, (lineOf t).2.1, (lineOf t).2.2) := by
  induction L with
  | nil => rfl
  | cons c r ih =>
    rw [List.cons_append, lineOf, if_neg (h c (by simp)), ih fun x hx => h x (by simp [hx])]
    rfl
theorem lineOf_feed (t : Bytes) : lineOf (10 :: t) = ([], true, t) := by rw [lineOf, if_pos rfl]

end Go.Proofs.YtbpcfjoebfbjmaaGreatDoor.Wi

/-
  What fold, expand, unexpand and nl compute, as plain functions on lists of bytes. No program in sight.
  No condition: definitions alone.
-/
namespace Go.Proofs.YtbpcfjoebfbjmaaGreatDoor.Wi
open Go

/-- All lines, told by a filter that may turn: what came out, and whether all lines were read. -/
def runsF {σ : Type} (f : σ → Bytes → σ × Bytes) (most : Nat) : Nat → σ → Bytes → Bytes × Bool
  | 0, _, _ => ([], true)
  | k + 1, s, inp => if inp = [] then ([], true) else
      let l := lineOf inp
      if most < l.1.length then ([], false)
      else
        let x := f s l.1
        let y := runsF f most k x.1 l.2.2
        (x.2 ++ feedOf l.2.1 ++ y.1, y.2)
def runs {σ : Type} (f : σ → Bytes → σ × Bytes) (most : Nat) (s : σ) (inp : Bytes) : Bytes × Bool := runsF f most inp.length s inp
/-- A filter that does not turn. -/
def still (f : Bytes → Bytes) : Unit → Bytes → Unit × Bytes := fun _ l => ((), f l)

def blank (c : UInt8) : Bool := c == 32 || c == 9

/-- How many of a piece go into a line: up to its last blank, if there is one. -/
def lastBlank (l : Bytes) : Nat := match l.reverse.findIdx? blank with
  | some i => l.length - i
  | none => l.length
def foldF (spaces : Bool) (w : Nat) : Nat → Bytes → Bytes
  | 0, _ => []
  | k + 1, line => if line = [] then [] else
      let n := min line.length w
      if n = line.length then line
      else
        let m := if spaces then lastBlank (line.take n) else n
        line.take m ++ [10] ++ foldF spaces w k (line.drop m)
def fold (spaces : Bool) (w : Nat) (line : Bytes) : Bytes := foldF spaces w line.length line

/-- The stop behind a column, of one distance. -/
def nextOf (s col : Nat) : Nat := col - col % s + s
/-- A column goes on by a byte (no backspace). -/
def tabCol (s : Nat) (col : Nat) (c : UInt8) : Nat := if c = 9 then nextOf s col else col + 1
def expandF (s : Nat) : Nat → Bytes → Bytes
  | _, [] => []
  | col, c :: r => (if c = 9 then List.replicate (nextOf s col - col) 32 else [c]) ++ expandF s (tabCol s col c) r
def expand (s : Nat) (line : Bytes) : Bytes := expandF s 0 line

/-- What a run of blanks becomes. -/
def runOf (s : Nat) : Nat → Nat → Nat → Bytes
  | 0, _, _ => []
  | k + 1, from_, upTo => if upTo < nextOf s from_ then List.replicate (upTo - from_) 32 else 9 :: runOf s k (nextOf s from_) upTo
def pieceOf (s : Nat) (piece : Bytes) (from_ upTo : Nat) : Bytes := if piece = [32] then piece else runOf s (upTo - from_ + 1) from_ upTo
def unexpandF (s : Nat) : Nat → Nat → Bytes → Bytes
  | 0, _, _ => []
  | k + 1, col, line => match line with
    | [] => []
    | c :: r =>
      if blank c then
        let p := line.takeWhile blank
        let upTo := p.foldl (tabCol s) col
        pieceOf s p col upTo ++ unexpandF s k upTo (line.dropWhile blank)
      else c :: unexpandF s k (col + 1) r
def unexpand (s : Nat) (line : Bytes) : Bytes := unexpandF s line.length 0 line

def digitsF : Nat → Nat → Bytes
  | 0, _ => []
  | f + 1, n => (if n / 10 = 0 then [] else digitsF f (n / 10)) ++ [UInt8.ofNat (48 + n % 10)]
def digits (n : Nat) : Bytes := digitsF 20 n
/-- nl, of all lines, in a place of nine, noughts ahead, nothing between. -/
def nlZ (by_ : Nat) : Nat → Bytes → Nat × Bytes := fun at_ l => (at_ + by_, List.replicate (9 - (digits at_).length) 48 ++ digits at_ ++ l)

/-! ## What WidthFolds asks -/
/-- The law's own check. -/
def foldsOk (n : Nat) : Bytes → Bytes → Nat → Bool
  | [], inp, _ => inp.isEmpty
  | c :: r, inp, wide =>
    let wide2 := if c = 10 then 0 else wide + 1
    if n < wide2 then false
    else match inp with
      | [] => if c = 10 then foldsOk n r [] wide2 else false
      | d :: t => if c = d then foldsOk n r t wide2 else if c = 10 then foldsOk n r (d :: t) wide2 else false

theorem foldsOk_same (n : Nat) (rest : Bytes) : ∀ (p t : Bytes) (wide : Nat), (∀ c ∈ p, c ≠ 10) → wide + p.length ≤ n → foldsOk n (p ++ rest) (p ++ t) wide = foldsOk n rest t (wide + p.length) := by
  intro p
  induction p with
  | nil => intro t wide _ _; simp
  | cons c r ih =>
    intro t wide h1 h2
    have hc : c ≠ 10 := h1 c (by simp)
    rw [List.cons_append, List.cons_append, foldsOk]
    simp only [if_neg hc, List.length_cons] at h2 ⊢
    rw [if_neg (by omega), if_pos trivial, ih t (wide + 1) (fun x hx => h1 x (by simp [hx])) (by omega)]
    congr 1
    omega
theorem foldsOk_made (n : Nat) (rest : Bytes) (d : UInt8) (t : Bytes) (wide : Nat) (hd : d ≠ 10) : foldsOk n (10 :: rest) (d :: t) wide = foldsOk n rest (d :: t) 0 := by
  rw [foldsOk]
  simp only [if_true]
  rw [if_neg (by omega), if_neg (Ne.symm hd)]
theorem foldsOk_feed (n : Nat) (rest t : Bytes) (wide : Nat) : foldsOk n (10 :: rest) (10 :: t) wide = foldsOk n rest t 0 := by
  rw [foldsOk]
  simp only [if_true]
  rw [if_neg (by omega)]

theorem lastBlank_le (l : Bytes) (h : l ≠ []) : 1 ≤ lastBlank l ∧ lastBlank l ≤ l.length := by
  have hl : 0 < l.length := List.length_pos_iff.2 h
  unfold lastBlank
  split
  · rename_i i hi
    have := (List.findIdx?_eq_some_iff_getElem.1 hi).1
    simp at this
    omega
  · omega

/-- A line that is folded: its bytes, with feeds between. -/
theorem fold_ok (n : Nat) (hn : 1 ≤ n) (sp : Bool) (rest t : Bytes) : ∀ (k : Nat) (line : Bytes), line.length ≤ k → (∀ c ∈ line, c ≠ 10) → ∃ wide, wide ≤ n ∧ foldsOk n (foldF sp n k line ++ rest) (line ++ t) 0 = foldsOk n rest t wide := by
  intro k
  induction k with
  | zero =>
    intro line hk _
    have : line = [] := List.eq_nil_of_length_eq_zero (by omega)
    subst this
    exact ⟨0, by omega, rfl⟩
  | succ k ih =>
    intro line hk h10
    rw [foldF]
    by_cases h0 : line = []
    · subst h0; exact ⟨0, by omega, rfl⟩
    rw [if_neg h0]
    simp only
    by_cases hw : min line.length n = line.length
    · rw [if_pos hw]
      refine ⟨0 + line.length, by omega, ?_⟩
      rw [foldsOk_same n rest line t 0 h10 (by omega)]
    · rw [if_neg hw]
      have hlt : n < line.length := by omega
      have hmin : min line.length n = n := by omega
      rw [hmin]
      have hm : 1 ≤ (if sp = true then lastBlank (line.take n) else n) ∧ (if sp = true then lastBlank (line.take n) else n) ≤ n := by
        have htl : (line.take n).length = n := by rw [List.length_take]; omega
        have := lastBlank_le (line.take n) (by intro e; rw [e] at htl; simp at htl; omega)
        split <;> omega
      generalize (if sp = true then lastBlank (line.take n) else n) = m at *
      obtain ⟨wide, hwn, he⟩ := ih (line.drop m) (by rw [List.length_drop]; omega) (fun c hc => h10 c (List.mem_of_mem_drop hc))
      refine ⟨wide, hwn, ?_⟩
      rw [List.append_assoc, List.append_assoc]
      conv => lhs; arg 3; rw [← List.take_append_drop m line, List.append_assoc]
      rw [foldsOk_same n _ (line.take m) _ 0 (fun c hc => h10 c (List.mem_of_mem_take hc)) (by rw [List.length_take]; omega)]
      have hd : ∃ d u, line.drop m = d :: u ∧ d ≠ 10 := by
        cases hdr : line.drop m with
        | nil => have := congrArg List.length hdr; rw [List.length_drop] at this; simp at this; omega
        | cons d u => exact ⟨d, u, rfl, h10 d (List.mem_of_mem_drop (by rw [hdr]; simp))⟩
      obtain ⟨d, u, hdr, hd10⟩ := hd
      rw [hdr] at he ⊢
      rw [List.singleton_append, List.cons_append, foldsOk_made n _ d _ _ hd10, ← List.cons_append]
      exact he

theorem lineOf_spec : ∀ (inp : Bytes), inp = (lineOf inp).1 ++ feedOf (lineOf inp).2.1 ++ (lineOf inp).2.2 ∧ (∀ c ∈ (lineOf inp).1, c ≠ 10) ∧ ((lineOf inp).2.1 = false → (lineOf inp).2.2 = []) := by
  intro inp
  induction inp with
  | nil => simp [lineOf, feedOf]
  | cons c r ih =>
    rw [lineOf]
    by_cases hc : c = 10
    · subst hc; simp [feedOf]
    · rw [if_neg hc]
      obtain ⟨h1, h2, h3⟩ := ih
      refine ⟨?_, ?_, h3⟩
      · simp only [List.cons_append]
        rw [← h1]
      · intro x hx
        rcases List.mem_cons.1 hx with rfl | hx
        · exact hc
        · exact h2 x hx
theorem lineOf_rest (inp : Bytes) (h : inp ≠ []) : (lineOf inp).2.2.length < inp.length := by
  obtain ⟨h1, h2, h3⟩ := lineOf_spec inp
  have hl := congrArg List.length h1
  simp only [List.length_append] at hl
  cases hf : (lineOf inp).2.1 with
  | true => rw [hf] at hl; simp [feedOf] at hl; omega
  | false =>
    rw [h3 hf]
    exact List.length_pos_iff.2 h

/-- THE LAW of fold, in bytes. -/
theorem folds_law (n : Nat) (hn : 1 ≤ n) (sp : Bool) (most : Nat) : ∀ (k : Nat) (inp : Bytes) (wide : Nat), inp.length ≤ k → wide = 0 ∨ inp = [] → (runsF (still (fold sp n)) most k () inp).2 = true → foldsOk n (runsF (still (fold sp n)) most k () inp).1 inp wide = true := by
  intro k
  induction k with
  | zero =>
    intro inp wide hk _ _
    have : inp = [] := List.eq_nil_of_length_eq_zero (by omega)
    subst this
    rfl
  | succ k ih =>
    intro inp wide hk hw hok
    rw [runsF] at hok ⊢
    by_cases h0 : inp = []
    · subst h0; rfl
    rw [if_neg h0] at hok ⊢
    have hw0 : wide = 0 := hw.resolve_right h0
    subst hw0
    simp only at hok ⊢
    by_cases hm : most < (lineOf inp).1.length
    · rw [if_pos hm] at hok; cases hok
    rw [if_neg hm] at hok ⊢
    simp only [still] at hok ⊢
    obtain ⟨h1, h2, h3⟩ := lineOf_spec inp
    have hr := lineOf_rest inp h0
    have ihh := fun wide hw => ih (lineOf inp).2.2 wide (by omega) hw hok
    conv => lhs; arg 3; rw [h1]
    rw [List.append_assoc, List.append_assoc]
    obtain ⟨wide, hwn, he⟩ := fold_ok n hn sp (feedOf (lineOf inp).2.1 ++ (runsF (still (fold sp n)) most k () (lineOf inp).2.2).1) (feedOf (lineOf inp).2.1 ++ (lineOf inp).2.2) (lineOf inp).1.length (lineOf inp).1 (Nat.le_refl _) h2
    have he2 : foldsOk n (fold sp n (lineOf inp).1 ++ (feedOf (lineOf inp).2.1 ++ (runsF (still (fold sp n)) most k () (lineOf inp).2.2).1)) ((lineOf inp).1 ++ (feedOf (lineOf inp).2.1 ++ (lineOf inp).2.2)) 0 = _ := he
    rw [he2]
    cases hf : (lineOf inp).2.1 with
    | true =>
      show foldsOk n (10 :: _) (10 :: _) wide = true
      rw [foldsOk_feed]
      exact ihh 0 (.inl rfl)
    | false =>
      have := h3 hf
      exact ihh wide (.inr this)

end Go.Proofs.YtbpcfjoebfbjmaaGreatDoor.Wi

/-
  The walks of width's blank, column.fold, Next, column.tab. Conditions: columns are not negative and not great; fold in bytes, or at a byte that moves by one.
-/
namespace Go.Proofs.YtbpcfjoebfbjmaaGreatDoor
open Go.RowKit Go.Shelf

set_option maxRecDepth 100000 in
theorem blank_any (c : UInt8) (w : World) : Calls Tryz.prog 127 #[.int .u8 c.toNat] w fun e w' => e = .returned (.bool (Wi.blank c)) ∧ w' = w := by
  have e0 : Wi.blank c = (((c.toNat : Int) == 32) || ((c.toNat : Int) == 9)) := by
    unfold Wi.blank
    rw [u8_beq c 32, u8_beq c 9]; rfl
  rw [e0]
  clear e0
  cases e1 : ((c.toNat : Int) == 32) with
  | true =>
    go_enter Tryz.func127, Tryz.ntmps127
    go_wp2_with fail
    go_ret
    exact ⟨rfl, rfl⟩
  | false =>
    cases e2 : ((c.toNat : Int) == 9) with
    | true =>
      go_enter Tryz.func127, Tryz.ntmps127
      go_wp2_with fail
      go_ret
      exact ⟨rfl, rfl⟩
    | false =>
      go_enter Tryz.func127, Tryz.ntmps127
      go_wp2_with fail
      go_ret
      exact ⟨rfl, rfl⟩

/-- A byte by which fold goes on by one. -/
def Moves (b : Bool) (c : UInt8) : Prop := b = true ∨ (c ≠ 9 ∧ c ≠ 8 ∧ c ≠ 13)

set_option maxRecDepth 100000 in
theorem colFold_any (cb : Nat) (col : Nat) (hcol : col ≤ 1099511627776) (c : UInt8) (b : Bool) (hm : Moves b c) (w : World) (hc : w.cell? ⟨cb, 0, none⟩ = some (.int .i64 col)) (hf : w.frozen? ⟨cb, 0, none⟩ = false) :
    Calls Tryz.prog 126 #[.pointer (some ⟨cb, 0, none⟩), .int .u8 c.toNat, .bool b] w fun e w' => (∃ v, e = .returned v) ∧ w' = w.setCell ⟨cb, 0, none⟩ (.int .i64 ((col + 1 : Nat) : Int)) := by
  cases b with
  | true =>
    go_enter Tryz.func126, Tryz.ntmps126
    go_wp2_with fail
    exact bodyPost_end (results_none rfl _ _ _) rfl ⟨⟨_, rfl⟩, rfl⟩
  | false =>
    rcases hm with h | ⟨h1, h2, h3⟩
    · cases h
    · have e1 : ((c.toNat : Int) == 9) = false := by simpa using u8_lit (n := 9) h1 (by decide)
      have e2 : ((c.toNat : Int) == 8) = false := by simpa using u8_lit (n := 8) h2 (by decide)
      have e3 : ((c.toNat : Int) == 13) = false := by simpa using u8_lit (n := 13) h3 (by decide)
      clear h1 h2 h3
      go_enter Tryz.func126, Tryz.ntmps126
      go_wp2_with fail
      exact bodyPost_end (results_none rfl _ _ _) rfl ⟨⟨_, rfl⟩, rfl⟩

/-- Numbers behind a slice's pointer. -/
def Is (w : World) (p : Option Addr) (l : List Int) : Prop := 0 < l.length → ∃ b o, p = some ⟨b, o, none⟩ ∧ b < w.heap.size ∧ ∀ i, i < l.length → w.cell? ⟨b, o + i, none⟩ = some (.int .i64 (l.getD i 0))
/-- The stop behind a column. -/
def nextL (l : List Int) (col : Int) : Option Int :=
  match l with
  | [n] => if n < 1 then none else some (wrap64 (col - col % n + n))
  | _ => l.find? fun n => decide (col < n)
def nextV : Option Int → Value
  | none => .tuple #[.int .i64 0, .bool false]
  | some n => .tuple #[.int .i64 n, .bool true]

set_option maxRecDepth 100000 in
set_option maxHeartbeats 4000000 in
theorem next_any (l : List Int) (p : Option Addr) (c : Nat) (hcl : l.length ≤ c) (hN : l.length ≤ 1073741824) (hbd : ∀ n ∈ l, -9223372036854775808 ≤ n ∧ n ≤ 9223372036854775807) (col : Int) (h0 : 0 ≤ col) (hcol : col ≤ 1099511627776) (w : World) (hI : Is w p l) :
    Calls Tryz.prog 10 #[.slice p l.length c, .int .i64 col] w fun e w' => e = .returned (nextV (nextL l col)) ∧ w' = w := by
  have HI := Lib.hid hI
  clear hI
  by_cases h1 : l.length = 1
  · obtain ⟨n, rfl⟩ : ∃ n, l = [n] := List.length_eq_one_iff.1 h1
    obtain ⟨b, o, rfl, hb, hc⟩ := HI.out (by simp)
    have c0 := hc 0 (by simp)
    simp only [Nat.add_zero, List.getD_cons_zero] at c0
    have hn := hbd n (by simp)
    simp only [List.length_singleton] at hcl ⊢
    clear hc h1 hbd HI
    by_cases h2 : n < 1
    · have hv : nextV (nextL [n] col) = .tuple #[.int .i64 0, .bool false] := by simp [nextL, nextV, h2]
      have HV := Lib.hid hv
      have e1 : decide (n < 1) = true := by simpa using h2
      clear hv h2
      go_enter Tryz.func10, Tryz.ntmps10
      go_wp2_with fail
      go_ret2
      exact ⟨by rw [HV.out]; rfl, rfl⟩
    · have hv : nextV (nextL [n] col) = .tuple #[.int .i64 (wrap64 (col - col % n + n)), .bool true] := by simp [nextL, nextV, h2]
      have HV := Lib.hid hv
      have e1 : decide (n < 1) = false := by simpa using h2
      have e3 : (n == 0) = false := by simp; omega
      have e8 : ¬ n = 0 := by omega
      have e4 : col.tmod n = col % n := Int.tmod_eq_emod_of_nonneg h0
      have e5 : 0 ≤ col % n := Int.emod_nonneg _ (by omega)
      have e6 : decide (col % n < 0) = false := by simp; omega
      have e7 : col % n ≤ col := by have := Int.mul_nonneg (show 0 ≤ n by omega) (Int.ediv_nonneg h0 (show 0 ≤ n by omega)); rw [Int.emod_def]; omega
      clear hv h2
      go_enter Tryz.func10, Tryz.ntmps10
      go_wp2_with fail
      go_ret2
      exact ⟨by rw [HV.out]; rfl, rfl⟩
  · have hv : nextL l col = l.find? fun n => decide (col < n) := by
      unfold nextL
      split
      · exact absurd rfl h1
      · rfl
    have HV := Lib.hid hv
    have e1 : ((l.length : Int) == 1) = false := by simp; omega
    clear hv h1
    go_enter Tryz.func10, Tryz.ntmps10
    go_wp2_with fail
    go_loopw [8, 37] (fun _x8 i wr => ∃ k : Nat, k ≤ l.length ∧ i = .int .i64 k ∧ Hid ((l.take k).find? (fun n => decide (col < n)) = none) ∧ wr = w) (fun _ i _ => l.length - (intOf i).toNat)
    case atStart => exact ⟨0, Nat.zero_le _, rfl, Lib.hid rfl, rfl⟩
    case round =>
      obtain ⟨k, hk, rfl, hf, rfl⟩ := hrel
      by_cases hlt : k < l.length
      · obtain ⟨b, o, rfl, hb, hc⟩ := HI.out (by omega)
        have c0 := hc k hlt
        obtain ⟨n, hn⟩ : ∃ n, l.getD k 0 = n := ⟨_, rfl⟩
        have hn2 : l[k] = n := by rw [← hn]; simp [List.getD_eq_getElem?_getD, List.getElem?_eq_getElem hlt]
        rw [hn] at c0
        have HN := Lib.hid hn2
        clear hc hn hn2
        by_cases hgt : col < n
        · have e2 : decide (col < n) = true := by simpa using hgt
          have hfin : l.find? (fun n => decide (col < n)) = some n := by
            have h3 := List.find?_append (xs := l.take k) (ys := l.drop k) (p := fun n => decide (col < n))
            rw [List.take_append_drop, hf.out, List.drop_eq_getElem_cons hlt, HN.out] at h3
            rw [h3]
            simp only [List.find?, e2, Option.none_or]
          have HF := Lib.hid hfin
          clear hgt hfin
          go_wp2_with fail
          go_ret2
          exact ⟨by rw [HV.out, HF.out]; rfl, rfl⟩
        · have e2 : decide (col < n) = false := by simpa using hgt
          have hfin : (l.take (k + 1)).find? (fun n => decide (col < n)) = none := by
            rw [List.take_succ_eq_append_getElem hlt, List.find?_append, hf.out, HN.out]
            simp [e2]
          have HF := Lib.hid hfin
          clear hgt hfin
          go_wp2_with fail
          go_roundw
          case rel => exact ⟨k + 1, by omega, by go_num, HF, by first | rfl | trivial⟩
          case measure => simp [intOf]; omega
      · obtain rfl : k = l.length := by omega
        have hfin : l.find? (fun n => decide (col < n)) = none := by have := hf.out; rw [List.take_of_length_le (Nat.le_refl _)] at this; exact this
        have HF := Lib.hid hfin
        clear hfin
        go_wp2_with fail
        go_ret2
        exact ⟨by rw [HV.out, HF.out]; rfl, rfl⟩

theorem w64_in (n : Int) (h : -9223372036854775808 ≤ n ∧ n ≤ 9223372036854775807) : wrap64 n = n := by unfold wrap64; omega
theorem nextL_one (s col : Nat) (hs : 1 ≤ s) (hs2 : s ≤ 1000000000) (hcol : col ≤ 1099511627776) : nextL [(s : Int)] (col : Int) = some ((Wi.nextOf s col : Nat) : Int) := by
  have hm : col % s ≤ col := Nat.mod_le _ _
  have e : ((col : Int) - (col : Int) % (s : Int) + (s : Int)) = ((Wi.nextOf s col : Nat) : Int) := by
    unfold Wi.nextOf
    rw [← Int.natCast_emod]
    omega
  have h2 : ¬ ((s : Int) < 1) := by omega
  simp only [nextL, if_neg h2]
  rw [e, w64_in]
  · unfold Wi.nextOf; omega

set_option maxRecDepth 100000 in
set_option maxHeartbeats 2000000 in
theorem tab_any (cb : Nat) (s col : Nat) (hs : 1 ≤ s) (hs2 : s ≤ 1000000000) (hcol : col ≤ 1099511627776) (c : UInt8) (h8 : c ≠ 8) (b o cc : Nat) (hcc : 1 ≤ cc) (w : World) (hb : w.cell? ⟨b, o, none⟩ = some (.int .i64 s)) (hc : w.cell? ⟨cb, 0, none⟩ = some (.int .i64 col)) (hf : w.frozen? ⟨cb, 0, none⟩ = false) :
    Calls Tryz.prog 132 #[.pointer (some ⟨cb, 0, none⟩), .int .u8 c.toNat, .slice (some ⟨b, o, none⟩) 1 cc] w fun e w' => (∃ v, e = .returned v) ∧ w' = w.setCell ⟨cb, 0, none⟩ (.int .i64 ((Wi.tabCol s col c : Nat) : Int)) := by
  have hn := next_any [(s : Int)] (some ⟨b, o, none⟩) cc (by simpa using hcc) (by simp) (by simp; omega) col (by omega) (by omega) w (fun _ => ⟨b, o, rfl, World.block_lt_of_cell? _ _ hb, fun i hi => by
    obtain rfl : i = 0 := by simpa using hi
    simpa using hb⟩)
  rw [nextL_one s col hs hs2 hcol] at hn
  simp only [List.length_singleton, nextV] at hn
  have e1 : ((c.toNat : Int) == 8) = false := by simpa using u8_lit (n := 8) h8 (by decide)
  by_cases h9 : c = 9
  · have e2 : ((c.toNat : Int) == 9) = true := by rw [h9]; rfl
    have et : Wi.tabCol s col c = Wi.nextOf s col := by unfold Wi.tabCol; rw [if_pos h9]
    rw [et]
    generalize Wi.nextOf s col = nx at *
    clear et h9 h8 hb
    go_enter Tryz.func132, Tryz.ntmps132
    go_wp2_with fail
    refine hn.mono ?_
    rintro e w1 ⟨rfl, rfl⟩
    clear hn
    go_wp2_with fail
    refine bodyPost_ret (results_none rfl _ _ _) rfl ⟨⟨_, rfl⟩, rfl⟩
  · have e2 : ((c.toNat : Int) == 9) = false := by simpa using u8_lit (n := 9) h9 (by decide)
    have et : Wi.tabCol s col c = col + 1 := by unfold Wi.tabCol; rw [if_neg h9]
    rw [et]
    clear et h9 h8 hb hn
    go_enter Tryz.func132, Tryz.ntmps132
    go_wp2_with fail
    exact bodyPost_end (results_none rfl _ _ _) rfl ⟨⟨_, rfl⟩, rfl⟩

end Go.Proofs.YtbpcfjoebfbjmaaGreatDoor

/-
  The walk of tree.leads, from, look, Stat at a path that has no parts. Conditions: the path is empty or one slash.
-/
namespace Go.Proofs.YtbpcfjoebfbjmaaGreatDoor
open Go.RowKit Go.Shelf
attribute [local go_sem] Oper.semAt_some

/-- A path without parts. -/
def NoParts (s : ByteArray) (n : Nat) : Prop := Lib.countB s ⟨#[47]⟩ + 1 = n ∧ Lib.splitB ⟨#[47]⟩ 0 (Lib.countB s ⟨#[47]⟩) s = List.replicate n ByteArray.empty ∧ s.size < 2 ∧ n ≤ 2 ∧ 1 ≤ n
theorem noParts_nil : NoParts ⟨#[]⟩ 1 := by unfold NoParts; decide +kernel
theorem noParts_slash : NoParts ⟨#[47]⟩ 2 := by unfold NoParts; decide +kernel

theorem i9 : (Tryz.prog.info? 9).map (fun i => (i.zero, i.size, i.bytes)) = some (some (.string ByteArray.empty), 1, 16) := by kernel_rfl

/-- strings.Split of such a path. -/
theorem split_none (s : ByteArray) (n : Nat) (hs : NoParts s n) (m : Int) (W : World) (hm : W.cell? ⟨5, 0, none⟩ = some (.int .i64 m)) :
    Calls Tryz.prog 147 #[.string s, .string ⟨#[47]⟩] W fun e w' => e = .returned (.slice (some ⟨W.heap.size, 0, none⟩) n n) ∧ Below W.heap.size W w' ∧ (∃ o, w' = W.alloc o) ∧ ∀ j, j < n → w'.cell? ⟨W.heap.size, j, none⟩ = some (.string ⟨#[]⟩) := by
  obtain ⟨h1, h2, h3, h4, h5⟩ := hs
  refine (Any.strings_Split Tryz.lays146 i9 s ⟨#[47]⟩ m W (by omega) hm (by decide)).mono ?_
  rintro e w1 ⟨rfl, rfl⟩
  rw [h2, h1]
  refine ⟨rfl, (Below.refl _ W).alloc (Nat.le_refl _) _, ⟨_, rfl⟩, ?_⟩
  intro j hj
  rw [World.cell?, heap_alloc_new]
  simp [hj]
  rfl

set_option maxRecDepth 100000 in
set_option maxHeartbeats 2000000 in
/-- The iterator over the parts: no round. -/
theorem parts1_calls (l Bn n : Nat) (s : ByteArray) (hs : NoParts s n) (J : World → Prop) (m : Int) (W : World) (hB : W.cell? ⟨Bn, 0, none⟩ = some (.string s)) (hm : W.cell? ⟨5, 0, none⟩ = some (.int .i64 m))
    (hJ : ∀ o, J (W.alloc o)) :
    Calls Tryz.prog 227 #[.func (.yield l) #[] #[], .pointer (some ⟨Bn, 0, none⟩)] W fun e W' => (∃ v, e = .returned v) ∧ J W' := by
  have c := split_none s n hs m W hm
  have hn2 : n ≤ 2 := hs.2.2.2.1
  clear hs
  go_enter Tryz.func227, Tryz.ntmps227
  go_wp2_with fail
  refine c.mono ?_
  rintro e w1 ⟨rfl, hb, ⟨o, ho⟩, hc⟩
  have H : J w1 := by rw [ho]; exact hJ o
  clear hJ ho o
  go_wp2_with fail
  go_loopw [8] (fun p wr => ∃ k : Nat, k ≤ n ∧ p = .int .i64 k ∧ wr = w1) (fun p _ => n - (intOf p).toNat)
  case atStart => exact ⟨0, Nat.zero_le _, rfl, rfl⟩
  case round =>
    obtain ⟨k, hk, rfl, rfl⟩ := hrel
    by_cases hlt : k < n
    · have hck := hc k hlt
      clear hc
      go_wp2_with fail
      exact ⟨⟨k + 1, by omega, by simp, trivial⟩, by simp [intOf]; omega⟩
    · obtain rfl : k = n := by omega
      go_wp2_with fail
      go_end0
      exact ⟨⟨_, rfl⟩, H⟩

/-- The iterator's contract: no round. -/
theorem parts1_stops (k n n₀ Bn : Nat) (s : ByteArray) (hs : NoParts s n) (m : Int) (w : World) (hB : w.cell? ⟨Bn, 0, none⟩ = some (.string s)) (hm : w.cell? ⟨5, 0, none⟩ = some (.int .i64 m)) :
    SeqStopsK Fence.wide k Tryz.prog 227 #[.pointer (some ⟨Bn, 0, none⟩)] (fun v : ByteArray => #[Value.string v]) (Below n₀) (fun xs => xs = []) (fun _ => False) 0 w := by
  intro l J Jx W hW hJ _ _ h0
  have hl1 : Bn < w.heap.size := World.block_lt_of_cell? _ _ hB
  have hl2 : 5 < w.heap.size := World.block_lt_of_cell? _ _ hm
  refine callsIn_wide.2 ((parts1_calls l Bn n s hs (J []) m W ((hW.cell (p := ⟨Bn, 0, none⟩) hl1).trans hB) ((hW.cell (p := ⟨5, 0, none⟩) hl2).trans hm) ?_).mono ?_)
  · intro o
    exact hJ _ _ _ none h0 (World.grownBy_alloc _ _ none) (fun r e => by cases e)
  · rintro e W' ⟨he, hj⟩
    exact ⟨he, .inl ⟨[], rfl, hj⟩⟩

theorem parts_any (s : ByteArray) (W : World) : Calls Tryz.prog 191 #[.string s] W fun e w' => e = .returned (.func (.func 227) #[] #[.pointer (some ⟨W.heap.size, 0, none⟩)]) ∧ w' = W.alloc (.cells #[.string s] 9) := by
  go_enter Tryz.func191, Tryz.ntmps191
  go_wp2_with fail
  go_ret
  exact ⟨rfl, rfl⟩

/-- A new cell. -/
theorem one_new (W : World) (v : Value) (t : TypeId) : (W.alloc (.cells #[v] t)).cell? ⟨W.heap.size, 0, none⟩ = some v ∧ (W.alloc (.cells #[v] t)).frozen? ⟨W.heap.size, 0, none⟩ = false := by
  constructor
  · rw [World.cell?, heap_alloc_new]; rfl
  · rw [World.frozen?, heap_alloc_new]; rfl

set_option maxRecDepth 100000 in
set_option maxHeartbeats 2000000 in
/-- leads, along a path of no parts: where one is. -/
theorem leads_none (t x : Option Addr) (s : ByteArray) (n : Nat) (hs : NoParts s n) (m : Int) (w : World) (hm : w.cell? ⟨5, 0, none⟩ = some (.int .i64 m)) :
    Calls Tryz.prog 152 #[.pointer t, .pointer x, .string s] w fun e w' => e = .returned (.tuple #[.pointer x, .int .i64 0]) ∧ Below w.heap.size w w' := by
  refine callsIn_wide.1 (callsIn_of_wp_marks (n := 3) Tryz.func152 rfl trivial ?_ rfl)
  simp only [Tryz.ntmps152, List.size_toArray, List.length_cons, List.length_nil, Nat.reduceAdd, Nat.reduceSub, Array.replicate_succ, Array.replicate_zero, List.push_toArray, List.append_toArray, List.nil_append, List.cons_append]
  gi_wp2_with (refine ⟨trivial, ?_⟩; gi_at_call 191; refine (callsIn_wide.2 (parts_any s _)).mono ?_; rintro e w' ⟨rfl, rfl⟩)
  have hx0 := one_new w (.pointer x) 163
  have hx1 := one_new (w.alloc (.cells #[.pointer x] 163)) (.pointer none) 163
  have hx2 := one_new ((w.alloc (.cells #[.pointer x] 163)).alloc (.cells #[.pointer none] 163)) (.int .i64 0) 45
  have hx3 := one_new (((w.alloc (.cells #[.pointer x] 163)).alloc (.cells #[.pointer none] 163)).alloc (.cells #[.int .i64 0] 45)) (.string s) 9
  simp only [World.size_alloc] at hx1 hx2 hx3
  have a0 := new_cell (new_cell (new_cell hx0.1 (.cells #[.pointer none] 163)) (.cells #[.int .i64 0] 45)) (.cells #[.string s] 9)
  have a1 := new_cell (new_cell hx1.1 (.cells #[.int .i64 0] 45)) (.cells #[.string s] 9)
  have b1 := new_frozen (new_cell hx1.1 (.cells #[.int .i64 0] 45)) (new_frozen hx1.1 hx1.2 (.cells #[.int .i64 0] 45)) (.cells #[.string s] 9)
  have a2 := new_cell hx2.1 (.cells #[.string s] 9)
  have b2 := new_frozen hx2.1 hx2.2 (.cells #[.string s] 9)
  have hB0 : Below w.heap.size w ((((w.alloc (.cells #[.pointer x] 163)).alloc (.cells #[.pointer none] 163)).alloc (.cells #[.int .i64 0] 45)).alloc (.cells #[.string s] 9)) := ((((Below.refl _ w).alloc (Nat.le_refl _) _).alloc (by simp) _).alloc (by simp; omega) _).alloc (by simp; omega) _
  have hlm : 5 < w.heap.size := World.block_lt_of_cell? _ _ hm
  have am := (hB0.cell (p := ⟨5, 0, none⟩) hlm).trans hm
  refine wpIn_rangeFunc_ownF rfl (by decide) (gf := 227) (lb := #[.pointer (some ⟨w.heap.size + 1 + 1 + 1, 0, none⟩)]) rfl trivial (enters_of Tryz.func227 (by kernel_rfl) rfl)
    (parts1_stops 2 n w.heap.size (w.heap.size + 1 + 1 + 1) s hs m _ hx3.1 am) belowK_t (belowK_b (by simp; omega)) (Below.refl _ _) (fun _ => rfl)
    (fun pre W => (W.cell? ⟨w.heap.size, 0, none⟩ = some (.pointer x) ∧ W.cell? ⟨w.heap.size + 1, 0, none⟩ = some (.pointer none) ∧ W.frozen? ⟨w.heap.size + 1, 0, none⟩ = false ∧ W.cell? ⟨w.heap.size + 1 + 1, 0, none⟩ = some (.int .i64 0) ∧ W.frozen? ⟨w.heap.size + 1 + 1, 0, none⟩ = false) ∧ Below w.heap.size w W)
    (fun _ _ _ => False)
    (OwnFrom.and (Own.from (fun s A B row hs hg hr => ⟨cell_kept hs.1 hg hr, cell_kept hs.2.1 hg hr, (frozen_kept hs.2.1 hg hr).trans hs.2.2.1, cell_kept hs.2.2.2.1 hg hr, (frozen_kept hs.2.2.2.1 hg hr).trans hs.2.2.2.2⟩) _) (ownFrom_below (Nat.le_refl _) (by simp; omega)))
    (fun _ _ _ _ _ hs _ _ => hs)
    ⟨⟨a0, a1, b1, a2, b2⟩, hB0⟩
    (fun v => { tmps := #[.pointer t, .pointer x, .string s, undef, .pointer (some ⟨w.heap.size, 0, none⟩), undef, .pointer (some ⟨w.heap.size + 1, 0, none⟩), .pointer (some ⟨w.heap.size + 1 + 1, 0, none⟩), .string v, undef, undef, .string s, .func (.func 227) #[] #[.pointer (some ⟨w.heap.size + 1 + 1 + 1, 0, none⟩)], .string v, undef, undef, undef, undef, undef, undef, undef, undef, undef, undef, undef, undef, undef, undef, undef, undef, undef, undef, undef, undef, undef, undef, undef, undef, undef, undef, undef, undef, undef, undef, undef, undef, undef], defers := [] }) ?assign ?body ?done ?stop
  case assign =>
    intro l v W K hK
    gi_wp2
    exact hK
  case body =>
    intro l pre v W _ hl
    exact absurd hl (Nat.not_lt_zero _)
  case done =>
    rintro D ys W hD rfl ⟨⟨c0, c1, d1, c2, d2⟩, hB⟩ hK
    gi_wp2
    have hb1 : (W.setCell ⟨w.heap.size + 1, 0, none⟩ (.pointer x)).cell? ⟨w.heap.size + 1 + 1, 0, none⟩ = some (.int .i64 0) := (World.cell?_of_block (Below.heap_setCell W ⟨w.heap.size + 1, 0, none⟩ _ (w.heap.size + 1 + 1) (by show w.heap.size + 1 + 1 ≠ w.heap.size + 1; omega))).trans c2
    have hK' := ((KeepsOthers.setCell W ⟨w.heap.size + 1, 0, none⟩ (.pointer x)).trans (KeepsOthers.setCell _ ⟨w.heap.size + 1 + 1, 0, none⟩ (.int .i64 0))).same D _ hK rfl
    refine ⟨by simp, .inl ⟨_, _, rfl, run_takeDeferred hK', ?_⟩⟩
    have hk5 := cell_kept ((World.cell?_of_block (Below.heap_setCell (W.setCell ⟨w.heap.size + 1, 0, none⟩ (.pointer x)) ⟨w.heap.size + 1 + 1, 0, none⟩ (.int .i64 0) (w.heap.size + 1) (by show w.heap.size + 1 ≠ w.heap.size + 1 + 1; omega))).trans (World.cell?_setCell_same' W ⟨w.heap.size + 1, 0, none⟩ (.pointer x) (by rw [c1]; rfl))) (grownBy_putObj' _ D (.deferred none)) (fun r e => by cases e; exact ⟨_, hK', rfl⟩)
    have hb5 := cell_kept (World.cell?_setCell_same' (W.setCell ⟨w.heap.size + 1, 0, none⟩ (.pointer x)) ⟨w.heap.size + 1 + 1, 0, none⟩ (.int .i64 0) (by rw [hb1]; rfl)) (grownBy_putObj' _ D (.deferred none)) (fun r e => by cases e; exact ⟨_, hK', rfl⟩)
    have hB2 := (hB.setCell (p := ⟨w.heap.size + 1, 0, none⟩) (by simp) (.pointer x)).setCell (p := ⟨w.heap.size + 1 + 1, 0, none⟩) (by simp; omega) (.int .i64 0)
    refine ⟨.tuple #[.pointer x, .int .i64 0], ?_, rfl, hB2.trans (belowK_b (w := w) (Nat.le_refl _) _ D _ _ (by simp at hD; omega) hK' rfl rfl)⟩
    simp [results, Tryz.results152, go_sem, hk5, hb5]
  case stop =>
    rintro D c pre W _ h _ _
    exact h.elim

/-! ## from, look, Stat -/
/-- The tree with the root alone: its root, a directory. -/
def RootAt (W : World) (t r : Nat) : Prop := W.cell? ⟨t, 0, none⟩ = some (.pointer (some ⟨r, 0, none⟩)) ∧ W.cell? ⟨r, 3, none⟩ = some (.bool true)

set_option maxRecDepth 100000 in
set_option maxHeartbeats 2000000 in
theorem from_root (t r : Nat) (m : Int) (w : World) (h : RootAt w t r) (hm : w.cell? ⟨5, 0, none⟩ = some (.int .i64 m)) :
    Calls Tryz.prog 151 #[.pointer (some ⟨t, 0, none⟩), .string ⟨#[]⟩, .string ⟨#[47]⟩] w fun e w' => e = .returned (.tuple #[.pointer (some ⟨r, 0, none⟩), .int .i64 0]) ∧ Below w.heap.size w w' := by
  obtain ⟨h0, h3⟩ := h
  have lt := World.block_lt_of_cell? _ _ h0
  have lr := World.block_lt_of_cell? _ _ h3
  have c := leads_none (some ⟨t, 0, none⟩) (some ⟨r, 0, none⟩) ⟨#[]⟩ 1 noParts_nil m w hm
  go_enter Tryz.func151, Tryz.ntmps151
  go_wp2_with fail
  refine c.mono ?_
  rintro e w1 ⟨rfl, hb⟩
  clear c
  have k0 := (hb.cell (p := ⟨t, 0, none⟩) lt).trans h0
  have k3 := (hb.cell (p := ⟨r, 3, none⟩) lr).trans h3
  go_wp2_with fail
  refine bodyPost_ret (results_tmp2 rfl _ _ _) rfl ?_
  exact ⟨rfl, hb⟩

set_option maxRecDepth 100000 in
set_option maxHeartbeats 2000000 in
theorem look_root (t r : Nat) (m : Int) (w : World) (h : RootAt w t r) (hm : w.cell? ⟨5, 0, none⟩ = some (.int .i64 m)) :
    Calls Tryz.prog 104 #[.pointer (some ⟨t, 0, none⟩), .string ⟨#[]⟩, .string ⟨#[47]⟩] w fun e w' => e = .returned (.tuple #[.pointer (some ⟨r, 0, none⟩), .int .i64 0]) ∧ Below w.heap.size w w' := by
  have c := from_root t r m w h hm
  obtain ⟨h0, h3⟩ := h
  have lt := World.block_lt_of_cell? _ _ h0
  have lr := World.block_lt_of_cell? _ _ h3
  have lm := World.block_lt_of_cell? _ _ hm
  have hsfx : ∀ w : World, Calls Tryz.prog 153 #[.string ⟨#[47]⟩, .string ⟨#[47]⟩] w fun e w' => e = .returned (.bool true) ∧ w' = w := fun w => (Any.strings_HasSuffix Tryz.lays100 ⟨#[47]⟩ ⟨#[47]⟩ w (by decide)).mono fun e w' h => h
  go_enter Tryz.func104, Tryz.ntmps104
  go_wp2_with fail
  refine c.mono ?_
  rintro e w1 ⟨rfl, hb⟩
  clear c
  have k0 := (hb.cell (p := ⟨t, 0, none⟩) lt).trans h0
  have k3 := (hb.cell (p := ⟨r, 3, none⟩) lr).trans h3
  have km := (hb.cell (p := ⟨5, 0, none⟩) lm).trans hm
  go_wp2_with fail
  refine (leads_none (some ⟨t, 0, none⟩) (some ⟨r, 0, none⟩) ⟨#[47]⟩ 2 noParts_slash m w1 km).mono ?_
  rintro e w2 ⟨rfl, hb2⟩
  have hb3 := hb2.mono hb.size
  have k3 := (hb3.cell (p := ⟨r, 3, none⟩) lr).trans k3
  go_wp2_with fail
  refine (hsfx w2).mono ?_
  rintro e w3 ⟨rfl, rfl⟩
  go_wp2_with fail
  refine bodyPost_ret (results_tmp2 rfl _ _ _) rfl ?_
  exact ⟨rfl, hb.trans hb3⟩

end Go.Proofs.YtbpcfjoebfbjmaaGreatDoor

/-
  The walk of tree.Stat at the root. Condition: the tree has a root that is a directory.
-/
namespace Go.Proofs.YtbpcfjoebfbjmaaGreatDoor
open Go.RowKit

/-- What is told of the root. -/
def rootStat (W : World) (r : Nat) : Prop := ∃ mode tick ino : Int, W.cell? ⟨r, 0, none⟩ = some (.int .i64 ino) ∧ W.cell? ⟨r, 1, none⟩ = some (.int .i64 mode) ∧ W.cell? ⟨r, 2, none⟩ = some (.int .i64 tick) ∧ W.cell? ⟨r, 4, none⟩ = some (.slice none 0 0)

set_option maxRecDepth 100000 in
set_option maxHeartbeats 2000000 in
theorem stat_root (t r : Nat) (m : Int) (w : World) (h : RootAt w t r) (hr : rootStat w r) (hm : w.cell? ⟨5, 0, none⟩ = some (.int .i64 m)) :
    Calls Tryz.prog 62 #[.pointer (some ⟨t, 0, none⟩), .string ⟨#[]⟩, .string ⟨#[47]⟩] w fun e w' => (∃ i md tk sz lk : Int, e = .returned (.tuple #[.agg #[.int .i64 i, .bool true, .int .i64 md, .int .i64 tk, .int .i64 sz, .int .i64 lk], .int .i64 0])) ∧ Below w.heap.size w w' := by
  have c := fun o => look_root t r m (w.alloc o) ⟨new_cell h.1 o, new_cell h.2 o⟩ (new_cell hm o)
  obtain ⟨h0, h3⟩ := h
  obtain ⟨mode, tick, ino, q0, q1, q2, q4⟩ := hr
  have lr := World.block_lt_of_cell? _ _ h3
  go_enter Tryz.func62, Tryz.ntmps62
  go_wp2_with fail
  refine (c _).mono ?_
  rintro e w1 ⟨rfl, hb⟩
  clear c
  have hb1 := below_new hb
  have k0 := (hb1.cell (p := ⟨r, 0, none⟩) lr).trans q0
  have k1 := (hb1.cell (p := ⟨r, 1, none⟩) lr).trans q1
  have k2 := (hb1.cell (p := ⟨r, 2, none⟩) lr).trans q2
  have k3 := (hb1.cell (p := ⟨r, 3, none⟩) lr).trans h3
  have k4 := (hb1.cell (p := ⟨r, 4, none⟩) lr).trans q4
  have hn := cells_new w #[.int .i64 0, .bool false, .int .i64 0, .int .i64 0, .int .i64 0, .int .i64 0] 125
  clear q0 q1 q2 q4 h0 h3 hm
  go_wp2_with fail
  have a0 := new_cell k0 (.cells #[.int .i64 0, .bool false, .int .i64 0, .int .i64 0, .int .i64 0, .int .i64 0] 125)
  have a1 := new_cell k1 (.cells #[.int .i64 0, .bool false, .int .i64 0, .int .i64 0, .int .i64 0, .int .i64 0] 125)
  have a2 := new_cell k2 (.cells #[.int .i64 0, .bool false, .int .i64 0, .int .i64 0, .int .i64 0, .int .i64 0] 125)
  have a3 := new_cell k3 (.cells #[.int .i64 0, .bool false, .int .i64 0, .int .i64 0, .int .i64 0, .int .i64 0] 125)
  have a4 := new_cell k4 (.cells #[.int .i64 0, .bool false, .int .i64 0, .int .i64 0, .int .i64 0, .int .i64 0] 125)
  go_region
  obtain ⟨w2, hw2⟩ : ∃ w2, (w1.alloc (.cells #[.int .i64 ino, .bool true, .int .i64 mode, .int .i64 tick, .int .i64 0, .int .i64 1] 125)).drew = w2 := ⟨_, rfl⟩
  rw [hw2]
  have b3 : w2.cell? ⟨r, 3, none⟩ = some (.bool true) := by rw [← hw2]; exact new_cell k3 _
  have hblk2 : Blk w2 w1.heap.size #[.int .i64 ino, .bool true, .int .i64 mode, .int .i64 tick, .int .i64 0, .int .i64 1] 125 := by
    rw [← hw2]
    exact Blk.drew (Blk.new w1 _ _)
  have g0 := hblk2.cell 0 rfl
  have g1 := hblk2.cell 1 rfl
  have g2 := hblk2.cell 2 rfl
  have g3 := hblk2.cell 3 rfl
  have g4 := hblk2.cell 4 rfl
  have g5 := hblk2.cell 5 rfl
  have hlt : w.heap.size < w1.heap.size := by have := hb.size; simp at this; omega
  have hblk : Blk w2 w.heap.size #[.int .i64 0, .bool false, .int .i64 0, .int .i64 0, .int .i64 0, .int .i64 0] 125 := by
    rw [← hw2]
    exact Blk.drew (Blk.alloc ((Blk.new w _ _).keep hb (by simp)) _)
  have hb2 : Below w.heap.size w w2 := by
    rw [← hw2]
    exact (hb1.alloc hb1.size _).drew
  have e0 := hblk.cell 0 rfl
  have f0 := hblk.free 0
  have e1 := hblk.cell 1 rfl
  have f1 := hblk.free 1
  have e2 := hblk.cell 2 rfl
  have f2 := hblk.free 2
  have e3 := hblk.cell 3 rfl
  have f3 := hblk.free 3
  have e4 := hblk.cell 4 rfl
  have f4 := hblk.free 4
  have e5 := hblk.cell 5 rfl
  have f5 := hblk.free 5
  have HB := Lib.hid hblk
  clear hblk hblk2 hw2 hn a0 a1 a2 a3 a4 k0 k1 k2 k3 k4
  go_wp2_with fail
  have HS := ((((((HB.out.set 0 (.int .i64 ino)).set 1 (.bool true)).set 2 (.int .i64 mode)).set 3 (.int .i64 tick)).set 4 (.int .i64 0)).set 5 (.int .i64 1))
  have r0 := HS.cell 0 rfl
  have r1 := HS.cell 1 rfl
  have r2 := HS.cell 2 rfl
  have r3 := HS.cell 3 rfl
  have r4 := HS.cell 4 rfl
  have r5 := HS.cell 5 rfl
  refine bodyPost_ret (v := .tuple #[.agg #[.int .i64 ino, .bool true, .int .i64 mode, .int .i64 tick, .int .i64 0, .int .i64 1], .int .i64 0]) ?_ rfl ⟨⟨ino, mode, tick, 0, 1, rfl⟩, ?_⟩
  · simp [results, Tryz.results62, go_sem, r0, r1, r2, r3, r4, r5]
  · refine hb2.trans ?_
    exact ((((((Below.refl w.heap.size w2).setCell (p := ⟨w.heap.size, 0, none⟩) (Nat.le_refl _) _).setCell (p := ⟨w.heap.size, 1, none⟩) (Nat.le_refl _) _).setCell (p := ⟨w.heap.size, 2, none⟩) (Nat.le_refl _) _).setCell (p := ⟨w.heap.size, 3, none⟩) (Nat.le_refl _) _).setCell (p := ⟨w.heap.size, 4, none⟩) (Nat.le_refl _) _).setCell (p := ⟨w.heap.size, 5, none⟩) (Nat.le_refl _) _

end Go.Proofs.YtbpcfjoebfbjmaaGreatDoor

/-
  The walks of tree.New and of tree.Load of no nodes. No condition.
-/
namespace Go.Proofs.YtbpcfjoebfbjmaaGreatDoor
open Go.RowKit

/-- A tree that has the root alone: its block, the root's, the map of its names, the map of files. -/
def TreeAt (W : World) (t r a b : Nat) : Prop :=
  Blk W t #[.pointer (some ⟨r, 0, none⟩), .map (some b), .int .i64 2, .int .i64 0] 166 ∧
  Blk W r #[.int .i64 1, .int .i64 493, .int .i64 0, .bool true, .slice none 0 0, .map (some a), .pointer (some ⟨r, 0, none⟩), .int .i64 0, .int .i64 0] 176 ∧
  W.heap[a]? = some (.map #[] 0) ∧ W.heap[b]? = some (.map #[] 0)

theorem lt_of_heap {W : World} {k : Nat} {o : Obj} (h : W.heap[k]? = some o) : k < W.heap.size := (Array.getElem?_eq_some_iff.1 h).1
theorem TreeAt.keep {W W' : World} {t r a b B : Nat} (h : TreeAt W t r a b) (hb : Below B W W') (h1 : t < B) (h2 : r < B) (h3 : a < B) (h4 : b < B) : TreeAt W' t r a b :=
  ⟨h.1.keep hb h1, h.2.1.keep hb h2, (hb.block a h3).trans h.2.2.1, (hb.block b h4).trans h.2.2.2⟩
theorem TreeAt.below {W W' : World} {t r a b : Nat} (h : TreeAt W t r a b) (hb : Below W.heap.size W W') : TreeAt W' t r a b :=
  h.keep hb h.1.lt h.2.1.lt (lt_of_heap h.2.2.1) (lt_of_heap h.2.2.2)
theorem TreeAt.root {W : World} {t r a b : Nat} (h : TreeAt W t r a b) : RootAt W t r ∧ rootStat W r :=
  ⟨⟨h.1.cell 0 rfl, h.2.1.cell 3 rfl⟩, ⟨_, _, _, h.2.1.cell 0 rfl, h.2.1.cell 1 rfl, h.2.1.cell 2 rfl, h.2.1.cell 4 rfl⟩⟩

set_option maxRecDepth 100000 in
set_option maxHeartbeats 2000000 in
theorem new_any (w : World) :
    Calls Tryz.prog 99 #[] w fun e w' => e = .returned (.pointer (some ⟨w.heap.size + 1 + 1 + 1, 0, none⟩)) ∧ TreeAt w' (w.heap.size + 1 + 1 + 1) (w.heap.size + 1) w.heap.size (w.heap.size + 1 + 1) ∧ Below w.heap.size w w' := by
  have hmm := @run_makeMap Tryz.prog
  go_enter Tryz.func99, Tryz.ntmps99
  go_wp2_with fail
  go_ret
  have k1 := heap_alloc_new w (.map #[] 0)
  refine ⟨rfl, ⟨?_, ?_, ?_, ?_⟩, ?_⟩
  · have := Blk.new (((w.alloc (.map #[] 0)).alloc (.cells #[.int .i64 1, .int .i64 493, .int .i64 0, .bool true, .slice none 0 0, .map (some w.heap.size), .pointer (some ⟨w.heap.size + 1, 0, none⟩), .int .i64 0, .int .i64 0] 176)).alloc (.map #[] 0)) #[.pointer (some ⟨w.heap.size + 1, 0, none⟩), .map (some (w.heap.size + 1 + 1)), .int .i64 2, .int .i64 0] 166
    simpa only [World.size_alloc] using this
  · have := Blk.new (w.alloc (.map #[] 0)) #[.int .i64 1, .int .i64 493, .int .i64 0, .bool true, .slice none 0 0, .map (some w.heap.size), .pointer (some ⟨w.heap.size + 1, 0, none⟩), .int .i64 0, .int .i64 0] 176
    simp only [World.size_alloc] at this
    exact (this.alloc _).alloc _
  · exact (Below.heap_alloc _ _ _ (by simp; omega)).trans ((Below.heap_alloc _ _ _ (by simp; omega)).trans ((Below.heap_alloc _ _ _ (by simp)).trans k1))
  · have := heap_alloc_new ((w.alloc (.map #[] 0)).alloc (.cells #[.int .i64 1, .int .i64 493, .int .i64 0, .bool true, .slice none 0 0, .map (some w.heap.size), .pointer (some ⟨w.heap.size + 1, 0, none⟩), .int .i64 0, .int .i64 0] 176)) (.map #[] 0)
    simp only [World.size_alloc] at this
    exact (Below.heap_alloc _ _ _ (by simp)).trans this
  · exact ((((Below.refl _ w).alloc (Nat.le_refl _) _).alloc (by simp) _).alloc (by simp; omega) _).alloc (by simp; omega) _

set_option maxRecDepth 100000 in
set_option maxHeartbeats 2000000 in
theorem load_none (w : World) :
    Calls Tryz.prog 61 #[.slice none 0 0] w fun e w' => ∃ t r a b, e = .returned (.tuple #[.pointer (some ⟨t, 0, none⟩), .int .i64 0]) ∧ TreeAt w' t r a b ∧ w.heap.size ≤ t ∧ w.heap.size ≤ r ∧ w.heap.size ≤ a ∧ w.heap.size ≤ b ∧ Below w.heap.size w w' := by
  have hmm := @run_makeMap Tryz.prog
  go_enter Tryz.func61, Tryz.ntmps61
  go_wp2_with fail
  refine (new_any w).mono ?_
  rintro e w1 ⟨rfl, ht, hb⟩
  go_wp2_with fail
  go_loopw [16] (fun p wr => p = .int .i64 0 ∧ wr = w1.alloc (.map #[] 0)) (fun _ _ => 0)
  case atStart => exact ⟨rfl, rfl⟩
  case round =>
    obtain ⟨rfl, rfl⟩ := hrel
    go_wp2_with fail
    go_ret2
    refine ⟨_, _, _, _, rfl, ht.below ((Below.refl _ _).alloc (Nat.le_refl _) _), ?_, ?_, ?_, ?_, hb.alloc hb.size _⟩ <;> omega

end Go.Proofs.YtbpcfjoebfbjmaaGreatDoor
