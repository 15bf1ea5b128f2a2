/-
  Texts of this seat put together: Num, StLaw, CSpec, T1, T2.
-/
import Derived.Test.YtjdcjdclipbjhaaGreatDoorQ3
import Derived.Lib.ParseIntBTie
import Derived.Lib.SplitLaws
import Derived.RangeFuncNested
import Derived.RangeFuncBound
import Derived.RangeFuncCalls
import Derived.RangeFuncLeaves
import Derived.Shelf.Abstract
import Derived.Shelf.RegionOpen
import Derived.OwnWalkIn
import Derived.TacticsInMore
import Derived.LoopNIn
import Derived.LoopIn

/-
  The walk of text.Number; the plain law of digits' values. Conditions: the strings are no longer than memory allows; the library's variables hold errors.
-/
namespace Go.Proofs.YtjdcjdclipbjhaaGreatDoor.Ord
open Go
abbrev Bytes := List UInt8
def digit (c : UInt8) : Bool := 48 ≤ c && c ≤ 57
def value (s : Bytes) : Nat := s.foldl (fun n c => n * 10 + (c.toNat - 48)) 0
/-- text.Number. -/
def number (s : Bytes) (most : Int) : Option Int :=
  if !s.isEmpty && s.all digit && decide ((value s : Int) ≤ most) then some (value s) else none
/-! ParseInt of digits alone. -/
def valueFrom (a : Nat) (s : Bytes) : Nat := s.foldl (fun n c => n * 10 + (c.toNat - 48)) a

theorem valueFrom_ge (s : Bytes) : ∀ a, a ≤ valueFrom a s := by
  induction s with
  | nil => intro a; exact Nat.le_refl _
  | cons c r ih => intro a; have := ih (a * 10 + (c.toNat - 48)); simp only [valueFrom, List.foldl_cons] at this ⊢; omega

theorem digit_nat {c : UInt8} (h : digit c = true) : 48 ≤ c.toNat ∧ c.toNat ≤ 57 := by
  simpa [digit, UInt8.le_iff_toNat_le] using h

theorem parseUintM_digits (s : Bytes) : ∀ a, s.all digit = true → a ≤ 18446744073709551615 →
    Lib.parseUintM 18446744073709551615 a s = if valueFrom a s ≤ 18446744073709551615 then .ok (valueFrom a s) else .range := by
  induction s with
  | nil => intro a _ ha; simp [Lib.parseUintM, valueFrom, ha]
  | cons c r ih =>
    intro a hs ha
    simp only [List.all_cons, Bool.and_eq_true] at hs
    have hd := digit_nat hs.1
    have hv := valueFrom_ge r (a * 10 + (c.toNat - 48))
    have e : valueFrom a (c :: r) = valueFrom (a * 10 + (c.toNat - 48)) r := rfl
    simp only [Lib.parseUintM, if_pos hd]
    rw [e]
    by_cases h1 : 1844674407370955162 ≤ a
    · rw [if_pos h1, if_neg (by omega)]
    · rw [if_neg h1]
      by_cases h2 : 18446744073709551615 < a * 10 + (c.toNat - 48)
      · rw [if_pos h2, if_neg (by omega)]
      · rw [if_neg h2]; exact ih _ hs.2 (by omega)

theorem parseIntB_digits (s : Bytes) (hs : s.all digit = true) (h0 : s ≠ []) :
    Lib.parseIntB 64 s = if value s < 9223372036854775808 then .ok (value s : Int) else .range := by
  match s, hs, h0 with
  | c :: r, hs, _ =>
    have hd := digit_nat (by simp only [List.all_cons, Bool.and_eq_true] at hs; exact hs.1)
    have hu : Lib.parseUintB 64 (c :: r) = if value (c :: r) ≤ 18446744073709551615 then .ok (value (c :: r)) else .range := by
      unfold Lib.parseUintB
      rw [if_neg (by simp)]
      exact parseUintM_digits (c :: r) 0 hs (by omega)
    have hu' : Lib.parseUintB 64 (if c.toNat = 43 ∨ c.toNat = 45 then r else c :: r) = if value (c :: r) ≤ 18446744073709551615 then .ok (value (c :: r)) else .range := by
      rw [if_neg (by omega)]; exact hu
    simp only [Lib.parseIntB, hu']
    have h45 : ¬ c.toNat = 45 := by omega
    by_cases h1 : value (c :: r) ≤ 18446744073709551615
    · rw [if_pos h1]
      by_cases h2 : value (c :: r) < 9223372036854775808
      · rw [if_pos h2]; simp [h45]; omega
      · rw [if_neg h2]; simp [h45]; omega
    · rw [if_neg h1, if_neg (by omega)]

theorem number_none_of (s : Bytes) (most : Int) (h : s = [] ∨ s.all digit = false ∨ most < value s) : number s most = none := by
  unfold number
  rcases h with h | h | h
  · simp [h]
  · simp [h]
  · rw [if_neg]; simp; intro _ _; omega
theorem number_some_of (s : Bytes) (most : Int) (h0 : s ≠ []) (h : s.all digit = true) (hv : (value s : Int) ≤ most) : number s most = some (value s : Int) := by
  unfold number
  rw [if_pos]
  simp [h0, h, hv]

end Go.Proofs.YtjdcjdclipbjhaaGreatDoor.Ord

namespace Go.Proofs.YtjdcjdclipbjhaaGreatDoor
open Go.RowKit Go.Shelf

theorem digit_int (c : UInt8) : Ord.digit c = (decide ((48 : Int) ≤ c.toNat) && decide ((c.toNat : Int) ≤ 57)) := by
  simp only [Ord.digit, u8_le]; rfl
theorem digit_no {c : UInt8} (h : (c.toNat : Int) < 48 ∨ 57 < (c.toNat : Int)) : Ord.digit c = false := by
  rw [digit_int]; simp; omega
theorem digit_yes {c : UInt8} (h : (48 : Int) ≤ c.toNat) (h' : (c.toNat : Int) ≤ 57) : Ord.digit c = true := by
  rw [digit_int]; simp; omega

/-- text.Number's answer. -/
def numVal (l : Ord.Bytes) (most : Int) : Value := match Ord.number l most with
  | none => .tuple #[.int .i64 0, .bool false]
  | some v => .tuple #[.int .i64 v, .bool true]

theorem parseInt_bad (l : Ord.Bytes) (hl : l.length ≤ 140737488351232) (h : l = [] ∨ (l.all Ord.digit = true ∧ 9223372036854775808 ≤ Ord.value l)) (w : World) (hg : Glo w) :
    Calls Tryz.prog 123 #[.string ⟨l.toArray⟩, .int .i64 10, .int .i64 64] w fun e w' => (∃ n t a, e = .returned (.tuple #[.int .i64 n, .iface t (.pointer (some a))])) ∧ Below w.heap.size w w' := by
  obtain ⟨⟨t1, p1, h1⟩, ⟨t2, p2, h2⟩, -⟩ := hg
  by_cases h0 : l = []
  · subst h0
    exact (Any.strconv_ParseInt_10_at64_syntax_var Tryz.laysC174 ⟨#[]⟩ (by decide) rfl t1 p1 w h1).mono fun e w' ⟨N, he, _, _, hb⟩ => ⟨⟨_, _, _, he⟩, hb⟩
  · rcases h with h | ⟨ha, hv⟩
    · exact absurd h h0
    · exact (Any.strconv_ParseInt_10_at64_range_var Tryz.laysC174 ⟨l.toArray⟩ (by simp [ByteArray.size]; omega) (by rw [Ord.parseIntB_digits l ha h0, if_neg (by omega)]) t2 p2 w h2).mono fun e w' ⟨N, he, _, _, hb⟩ => ⟨⟨_, _, _, he⟩, hb⟩

theorem parseInt_good (l : Ord.Bytes) (hl : l.length ≤ 140737488351232) (h0 : l ≠ []) (ha : l.all Ord.digit = true) (hv : Ord.value l < 9223372036854775808) (w : World) :
    Calls Tryz.prog 123 #[.string ⟨l.toArray⟩, .int .i64 10, .int .i64 64] w fun e w' => e = .returned (.tuple #[.int .i64 (Ord.value l), .nilIface]) ∧ Below w.heap.size w w' := by
  refine (Any.strconv_ParseInt_10_at64_ok Tryz.laysC174 ⟨l.toArray⟩ (by simp [ByteArray.size]; omega) (Ord.value l) (by rw [Ord.parseIntB_digits l ha h0, if_pos hv]) w).mono fun e w' ⟨he, hw⟩ => ⟨he, ?_⟩
  rcases hw with rfl | ⟨t, rfl⟩
  · exact Below.refl _ _
  · exact Lib.bytesWorld_below _ _ _

/-- Are so many of the first bytes digits? -/
theorem all_take (l : Ord.Bytes) (k : Nat) (hk : k < l.length) : (l.take (k + 1)).all Ord.digit = ((l.take k).all Ord.digit && Ord.digit (l.getD k 0)) := by
  rw [List.take_succ_eq_append_getElem hk, List.all_append]
  simp [List.getD_eq_getElem?_getD, List.getElem?_eq_getElem hk]

theorem all_false_at (l : Ord.Bytes) (k : Nat) (hk : k < l.length) (h : Ord.digit (l.getD k 0) = false) : l.all Ord.digit = false := by
  rw [List.all_eq_false]
  exact ⟨l.getD k 0, by rw [List.getD_eq_getElem?_getD, List.getElem?_eq_getElem hk]; exact List.getElem_mem hk, by rw [h]; decide⟩

theorem numVal_none {l : Ord.Bytes} {most : Int} (h : l = [] ∨ l.all Ord.digit = false ∨ most < Ord.value l) : numVal l most = .tuple #[.int .i64 0, .bool false] := by
  unfold numVal; rw [Ord.number_none_of l most h]
theorem numVal_some {l : Ord.Bytes} {most : Int} (h0 : l ≠ []) (h : l.all Ord.digit = true) (hv : (Ord.value l : Int) ≤ most) : numVal l most = .tuple #[.int .i64 (Ord.value l), .bool true] := by
  unfold numVal; rw [Ord.number_some_of l most h0 h hv]

set_option maxRecDepth 100000 in
theorem based_any (l : Ord.Bytes) (most : Int) (hl : l.length ≤ 140737488351232) (hm0 : 0 ≤ most) (hm : most ≤ 2147483647) (w : World) (hg : Glo w) :
    Calls Tryz.prog 64 #[.string ⟨l.toArray⟩, .int .i64 most, .int .i64 10] w fun e w' => e = .returned (numVal l most) ∧ Below w.heap.size w w' := by
  have hconv := fun w => Lib.run_convert_string_bytes (P := Tryz.prog) w 9 33 5 ⟨l.toArray⟩ Tryz.underlying9 Tryz.underlying33 Tryz.underlying5
  have hsz : (⟨l.toArray⟩ : ByteArray).size = l.length := by simp [ByteArray.size]
  simp only [hsz] at hconv
  have hbel := Lib.bytesWorld_below w 5 ⟨l.toArray⟩
  have hcell : ∀ j, j < l.length → (Lib.bytesWorld w 5 ⟨l.toArray⟩).cell? ⟨w.heap.size, j, none⟩ = some (.int .u8 (l.getD j 0).toNat) := fun j hj => Lib.bytesWorld_cell w 5 ⟨l.toArray⟩ j (by rw [hsz]; exact hj)
  have hsize := Lib.bytesWorld_size w 5 ⟨l.toArray⟩
  go_enter Tryz.func64, Tryz.ntmps64
  go_wp2_with fail
  clear hconv
  generalize Lib.bytesWorld w 5 ⟨l.toArray⟩ = w1 at *
  have hg1 := hg.below hbel
  go_loop [15] (fun i => ∃ k : Nat, k ≤ l.length ∧ (l.take k).all Ord.digit = true ∧ i = .int .i64 k) (fun i => l.length - (intOf i).toNat)
  case atStart => exact ⟨0, Nat.zero_le _, rfl, rfl⟩
  case round =>
    obtain ⟨k, hk, hall, rfl⟩ := hrel
    have HA := Lib.hid hall; clear hall
    by_cases hlt : k < l.length
    · have hc := hcell k hlt
      have hbd := u8_bd (l.getD k 0)
      have eg : l[k] = l.getD k 0 := by simp [List.getD_eq_getElem?_getD, List.getElem?_eq_getElem hlt]
      have EG := Lib.hid eg; clear eg
      go_wp2_with fail
      · have h1 : (l[k].toNat : Int) < 48 := by assumption
        rw [EG.out] at h1
        go_ret2
        refine ⟨?_, hbel⟩
        rw [numVal_none (.inr (.inl (all_false_at l k hlt (digit_no (by omega)))))]; rfl
      · have h1 : 10 ≤ ((l[k].toNat : Int) - 48) % 256 := by assumption
        rw [EG.out] at h1
        go_ret2
        refine ⟨?_, hbel⟩
        rw [numVal_none (.inr (.inl (all_false_at l k hlt (digit_no (by omega)))))]; rfl
      · have h1 : ((l[k].toNat : Int) - 48) % 256 < 10 := by assumption
        have h2 : ¬ (l[k].toNat : Int) < 48 := by assumption
        rw [EG.out] at h1 h2
        go_round
        case rel => exact ⟨k + 1, by omega, by rw [all_take l k hlt, HA.out, digit_yes (by omega) (by omega)]; rfl, by go_num⟩
        case measure => simp [intOf]; omega
    · obtain rfl : k = l.length := by omega
      have hall : l.all Ord.digit = true := by simpa using HA.out
      have HA2 := Lib.hid hall; clear hall HA
      by_cases h0 : l = [] ∨ 9223372036854775808 ≤ Ord.value l
      · have HN := Lib.hid (show numVal l most = .tuple #[.int .i64 0, .bool false] from numVal_none (by rcases h0 with h | h; exact .inl h; exact .inr (.inr (by omega))))
        have hbad := fun w => parseInt_bad l hl (h0.imp id fun h => ⟨HA2.out, h⟩) w
        clear h0
        go_wp2_with (go_at_call 123; refine (hbad _ hg1).mono ?_; rintro e w2 ⟨⟨n, t, a, rfl⟩, hb2⟩)
        go_ret2
        exact ⟨by rw [HN.out]; rfl, hbel.trans (hb2.mono (by omega))⟩
      · have hn0 : l ≠ [] := fun h => h0 (.inl h)
        have hv : Ord.value l < 9223372036854775808 := by rcases Nat.lt_or_ge (Ord.value l) 9223372036854775808 with h | h; exact h; exact absurd (.inr h) h0
        have hgood := fun w => parseInt_good l hl hn0 HA2.out hv w
        clear h0
        by_cases hv2 : (Ord.value l : Int) ≤ most
        · have HN := Lib.hid (numVal_some (most := most) hn0 HA2.out hv2)
          clear hn0
          go_wp2_with (go_at_call 123; refine (hgood _).mono ?_; rintro e w2 ⟨rfl, hb2⟩)
          go_ret2
          exact ⟨by rw [HN.out]; rfl, hbel.trans (hb2.mono (by omega))⟩
        · have HN := Lib.hid (show numVal l most = .tuple #[.int .i64 0, .bool false] from numVal_none (.inr (.inr (by omega))))
          clear hn0
          go_wp2_with (go_at_call 123; refine (hgood _).mono ?_; rintro e w2 ⟨rfl, hb2⟩)
          go_ret2
          exact ⟨by rw [HN.out]; rfl, hbel.trans (hb2.mono (by omega))⟩

set_option maxRecDepth 100000 in
theorem number_any (l : Ord.Bytes) (most : Int) (hl : l.length ≤ 140737488351232) (hm0 : 0 ≤ most) (hm : most ≤ 2147483647) (w : World) (hg : Glo w) :
    Calls Tryz.prog 30 #[.string ⟨l.toArray⟩, .int .i64 most] w fun e w' => e = .returned (numVal l most) ∧ Below w.heap.size w w' := by
  have hb := fun w' hg' => based_any l most hl hm0 hm w' hg'
  have hx : ∃ n b, numVal l most = .tuple #[.int .i64 n, .bool b] := by
    unfold numVal; split <;> exact ⟨_, _, rfl⟩
  obtain ⟨n, b, hx⟩ := hx
  rw [hx] at hb ⊢
  clear hx
  go_enter Tryz.func30, Tryz.ntmps30
  go_wp2_with (go_at_call 64; refine (hb _ hg).mono ?_; rintro e w1 ⟨rfl, hb1⟩)
  go_ret2
  exact ⟨rfl, hb1⟩

end Go.Proofs.YtjdcjdclipbjhaaGreatDoor

/-
  Lists of tab stops, as plain functions. No program in sight. No condition.
-/
namespace Go.Proofs.YtjdcjdclipbjhaaGreatDoor.Wi
open Go

/-- What stands between stops. -/
def sepB (c : UInt8) : Bool := c == 44 || c == 32 || c == 9
/-- The parts between such bytes. -/
def partsBy (f : UInt8 → Bool) : List UInt8 → List (List UInt8)
  | [] => [[]]
  | c :: r => if f c = true then [] :: partsBy f r else (c :: (partsBy f r).headD []) :: (partsBy f r).tail
theorem partsBy_ne (f : UInt8 → Bool) (s : List UInt8) : partsBy f s ≠ [] := by
  cases s with
  | nil => simp [partsBy]
  | cons c r => rw [partsBy]; split <;> simp
theorem partsBy_head (f : UInt8 → Bool) (s : List UInt8) : (partsBy f s).headD [] :: (partsBy f s).tail = partsBy f s := by
  have h := partsBy_ne f s
  cases hp : partsBy f s with
  | nil => exact absurd hp h
  | cons a b => rfl
theorem partsBy_hit (f : UInt8 → Bool) (c : UInt8) (r : List UInt8) (hc : f c = true) : ∀ (p : List UInt8), (∀ x ∈ p, f x = false) → partsBy f (p ++ c :: r) = p :: partsBy f r := by
  intro p
  induction p with
  | nil => intro _; rw [List.nil_append, partsBy, if_pos hc]
  | cons d t ih =>
    intro h
    rw [List.cons_append, partsBy, if_neg (by rw [h d (by simp)]; decide), ih fun x hx => h x (by simp [hx])]
    rfl
theorem partsBy_miss (f : UInt8 → Bool) : ∀ (p : List UInt8), (∀ x ∈ p, f x = false) → partsBy f p = [p] := by
  intro p
  induction p with
  | nil => intro _; rfl
  | cons d t ih =>
    intro h
    rw [partsBy, if_neg (by rw [h d (by simp)]; decide), ih fun x hx => h x (by simp [hx])]
    rfl

/-- Blanks may stand for commas. -/
theorem partsBy_map (g : UInt8 → UInt8) (hg : ∀ c, g c = if c = 32 ∨ c = 9 then 44 else c) : ∀ (s : List UInt8), partsBy (fun x => x == 44) (s.map g) = partsBy sepB s := by
  intro s
  induction s with
  | nil => rfl
  | cons c r ih =>
    rw [List.map_cons, partsBy, partsBy, ih]
    by_cases hc : sepB c = true
    · have h : (g c == 44) = true := by
        rw [hg]
        simp only [sepB, Bool.or_eq_true, beq_iff_eq] at hc
        rcases hc with (rfl | rfl) | rfl <;> decide
      rw [if_pos hc, if_pos h]
    · have hc2 := hc
      simp only [sepB, Bool.or_eq_true, beq_iff_eq, not_or] at hc2
      have e : g c = c := by rw [hg, if_neg]; simp [hc2]
      rw [if_neg hc, e, if_neg (by simp [hc2])]

/-- strings.Split, in these terms. -/
theorem splitB_parts (c : UInt8) : ∀ (k : Nat) (s : ByteArray), s.size ≤ k → (Lib.splitB ⟨#[c]⟩ 0 (Lib.countB s ⟨#[c]⟩) s).map (fun x => x.data.toList) = partsBy (fun x => x == c) s.data.toList := by
  intro k
  induction k with
  | zero =>
    intro s hk
    have h0 : s.data.toList = [] := List.eq_nil_of_length_eq_zero (by have := Lib.size_eq s; omega)
    rcases Lib.indexB_cases s ⟨#[c]⟩ with h | ⟨i, -, hi⟩
    · rw [Lib.countB_miss _ _ h, Lib.splitB_zero, h0]; simp [h0, partsBy]
    · have : (⟨#[c]⟩ : ByteArray).size = 1 := rfl
      omega
  | succ k ih =>
    intro s hk
    have hsz : (⟨#[c]⟩ : ByteArray).size = 1 := rfl
    have hix : Lib.indexB s ⟨#[c]⟩ = Lib.indexByte s.data.toList c := Lib.index_one s.data.toList c
    rcases Lib.indexB_cases s ⟨#[c]⟩ with h | ⟨i, h, hi⟩
    · rw [Lib.countB_miss _ _ h, Lib.splitB_zero, partsBy_miss]
      · rfl
      · intro x hx
        obtain ⟨j, hj⟩ := List.mem_iff_getElem?.1 hx
        have := Lib.indexByte_none (hix ▸ h) j
        rw [hj] at this
        simpa using fun e => this (by rw [e])
    · rw [Lib.countB_hit _ _ i (by rw [hsz]; exact Nat.le_refl _) h, Nat.add_comm, Lib.splitB_hit _ _ _ _ _ h, List.map_cons]
      rw [ih _ (by simp [ByteArray.size_extract]; omega)]
      obtain ⟨h1, h2⟩ := Lib.indexByte_some (hix ▸ h)
      have hlt : i < s.data.toList.length := by have := Lib.size_eq s; omega
      have es : s.data.toList = s.data.toList.take i ++ c :: s.data.toList.drop (i + 1) := by
        have e1 : s.data.toList[i] = c := by rw [List.getElem?_eq_getElem hlt] at h1; exact Option.some.inj h1
        rw [← e1, ← List.drop_eq_getElem_cons hlt, List.take_append_drop]
      conv => rhs; rw [es]
      rw [partsBy_hit _ c _ (by simp)]
      · rw [Lib.extract_from_zero, Nat.add_zero, Lib.extract_to_end, hsz]
      · intro x hx
        obtain ⟨j, hj⟩ := List.mem_iff_getElem?.1 hx
        rw [List.getElem?_take] at hj
        split at hj
        · rename_i hji
          have := h2 j hji
          rw [hj] at this
          simpa using fun e => this (by rw [e])
        · cases hj

/-- A list of stops is read. -/
def stopsGo (most : Int) : List Int → List (List UInt8) → Option (List Int)
  | out, [] => some out
  | out, p :: ps => match Ord.number p most with
    | none => none
    | some n => if n < 1 ∨ (out ≠ [] ∧ n ≤ out.getLastD 0) then none else stopsGo most (out ++ [n]) ps
theorem stopsGo_bad (most : Int) (out : List Int) (p : List UInt8) (ps : List (List UInt8)) (h : Ord.number p most = none) : stopsGo most out (p :: ps) = none := by
  rw [stopsGo, h]
theorem stopsGo_low (most : Int) (out : List Int) (p : List UInt8) (ps : List (List UInt8)) (n : Int) (h : Ord.number p most = some n) (h2 : n < 1 ∨ (out ≠ [] ∧ n ≤ out.getLastD 0)) : stopsGo most out (p :: ps) = none := by
  rw [stopsGo, h]
  simp only
  rw [if_pos h2]
theorem stopsGo_good (most : Int) (out : List Int) (p : List UInt8) (ps : List (List UInt8)) (n : Int) (h : Ord.number p most = some n) (h1 : 1 ≤ n) (h2 : out = [] ∨ out.getLastD 0 < n) : stopsGo most out (p :: ps) = stopsGo most (out ++ [n]) ps := by
  rw [stopsGo, h]
  simp only
  rw [if_neg]
  rintro (h3 | ⟨h3, h4⟩)
  · omega
  · rcases h2 with h2 | h2
    · exact h3 h2
    · omega
def stopsOf (most : Int) (s : List UInt8) : Option (List Int) := stopsGo most [] (partsBy sepB s)

/-- The reference's loop: at a byte between stops, or at the end. -/
theorem stops_at (s : List UInt8) (a i : Nat) (h : a ≤ i) (hi : i < s.length) (hn : ∀ k, a ≤ k → k < i → sepB (s.getD k 0) = false) (hs : sepB (s.getD i 0) = true) : partsBy sepB (s.drop a) = (s.drop a).take (i - a) :: partsBy sepB (s.drop (i + 1)) := by
  have e1 : s.drop a = (s.drop a).take (i - a) ++ s.drop i := by
    conv => lhs; rw [← List.take_append_drop (i - a) (s.drop a)]
    rw [List.drop_drop]
    congr 2
    omega
  have e2 : s.drop i = s.getD i 0 :: s.drop (i + 1) := by
    rw [List.drop_eq_getElem_cons hi, List.getD_eq_getElem?_getD, List.getElem?_eq_getElem hi]; rfl
  conv => lhs; rw [e1, e2]
  rw [partsBy_hit _ _ _ hs]
  intro x hx
  obtain ⟨j, hj⟩ := List.mem_iff_getElem?.1 hx
  rw [List.getElem?_take] at hj
  split at hj
  · rename_i hji
    rw [List.getElem?_drop] at hj
    have := hn (a + j) (by omega) (by omega)
    rw [List.getD_eq_getElem?_getD, hj] at this
    exact this
  · cases hj
theorem stops_end (s : List UInt8) (a : Nat) (hn : ∀ k, a ≤ k → k < s.length → sepB (s.getD k 0) = false) : partsBy sepB (s.drop a) = [s.drop a] := by
  refine partsBy_miss _ _ fun x hx => ?_
  obtain ⟨j, hj⟩ := List.mem_iff_getElem?.1 hx
  rw [List.getElem?_drop] at hj
  have hlt := (List.getElem?_eq_some_iff.1 hj).1
  have := hn (a + j) (by omega) hlt
  rw [List.getD_eq_getElem?_getD, hj] at this
  exact this

/-- One number alone. -/
theorem stopsOf_one (most : Int) (s : List UInt8) (hs : ∀ c ∈ s, Ord.digit c = true) (n : Int) (hn : Ord.number s most = some n) (h1 : 1 ≤ n) : stopsOf most s = some [n] := by
  unfold stopsOf
  rw [partsBy_miss _ s fun x hx => by
    have := Ord.digit_nat (hs x hx)
    unfold sepB
    simp only [Bool.or_eq_false_iff, beq_eq_false_iff_ne]
    refine ⟨⟨?_, ?_⟩, ?_⟩ <;> rintro rfl <;> revert this <;> decide]
  rw [stopsGo_good most [] s [] n hn h1 (.inl rfl)]
  rfl

end Go.Proofs.YtjdcjdclipbjhaaGreatDoor.Wi

/-
  Lists of places, as plain functions. No program in sight. No condition.
-/
namespace Go.Proofs.YtjdcjdclipbjhaaGreatDoor.Co
open Go

abbrev Spn := Int × Int
def maxNum : Int := 2147483647
/-- A part at its first stroke. -/
def dash (s : List UInt8) : List UInt8 × List UInt8 × Bool := if 0 ≤ Lib.indexByte s 45 then (s.take (Lib.indexByte s 45).toNat, s.drop ((Lib.indexByte s 45).toNat + 1), true) else (s, [], false)
theorem cut_dash (s : List UInt8) : Lib.cut s [45] = dash s := by
  unfold Lib.cut dash
  rw [Lib.index_one]
  rfl
theorem dash_len (s : List UInt8) : (dash s).1.length ≤ s.length ∧ (dash s).2.1.length ≤ s.length := by
  unfold dash
  split
  · simp; omega
  · simp
/-- A place: its number; may it be? -/
def placeV (s : List UInt8) (other : Int) : Int × Bool := if s = [] then (other, true) else match Ord.number s maxNum with
  | none => (0, false)
  | some n => (n, decide (0 < n))
/-- What a part of a list is. -/
def toV (b : List UInt8) (f : Bool) (x : Int) : Int × Bool := if f then placeV b maxNum else (x, true)
def spanOf (p : List UInt8) : Option Spn :=
  if (dash p).1 = [] ∧ (dash p).2.1 = [] then none else
  if (placeV (dash p).1 1).2 = true ∧ (toV (dash p).2.1 (dash p).2.2 (placeV (dash p).1 1).1).2 = true ∧ (placeV (dash p).1 1).1 ≤ (toV (dash p).2.1 (dash p).2.2 (placeV (dash p).1 1).1).1 then
    some ((placeV (dash p).1 1).1, (toV (dash p).2.1 (dash p).2.2 (placeV (dash p).1 1).1).1) else none
/-- A list of places is read. -/
def listGo : List Spn → List (List UInt8) → Option (List Spn)
  | out, [] => some out
  | out, p :: ps => match spanOf p with
    | none => none
    | some x => listGo (out ++ [x]) ps
theorem listGo_bad (out : List Spn) (p : List UInt8) (ps : List (List UInt8)) (h : spanOf p = none) : listGo out (p :: ps) = none := by rw [listGo, h]
theorem listGo_good (out : List Spn) (p : List UInt8) (ps : List (List UInt8)) (x : Spn) (h : spanOf p = some x) : listGo out (p :: ps) = listGo (out ++ [x]) ps := by rw [listGo, h]
def listOf (s : List UInt8) : Option (List Spn) := listGo [] (Wi.partsBy Wi.sepB s)

/-- A place's number is in bounds. -/
theorem placeV_bd (s : List UInt8) (o : Int) (h0 : 0 ≤ o) (h1 : o ≤ maxNum) : 0 ≤ (placeV s o).1 ∧ (placeV s o).1 ≤ maxNum := by
  unfold placeV
  split
  · exact ⟨h0, h1⟩
  · unfold Ord.number
    split
    · exact ⟨by decide, by decide⟩
    · rename_i n hn
      split at hn
      · rename_i hc
        obtain rfl := Option.some.inj hn
        simp at hc
        exact ⟨by simp, by simpa using hc.2⟩
      · cases hn

/-- The document's part: where a part has no stroke. -/
theorem span_no (p : List UInt8) (h : Lib.indexByte p 45 < 0) : spanOf p = match Ord.number p maxNum with
    | none => none
    | some n => if 0 < n then some (n, n) else none := by
  have hd : dash p = (p, [], false) := by unfold dash; rw [if_neg (by omega)]
  unfold spanOf toV
  rw [hd]
  simp only
  by_cases hp : p = []
  · rw [if_pos ⟨hp, trivial⟩]
    rw [Ord.number_none_of p _ (.inl hp)]
  · rw [if_neg fun h => hp h.1]
    unfold placeV
    rw [if_neg hp]
    cases Ord.number p maxNum with
    | none => simp
    | some n =>
      by_cases hn : 0 < n
      · simp [hn]
      · simp [hn]

end Go.Proofs.YtjdcjdclipbjhaaGreatDoor.Co

/-
  The walk of tree.leads, from, look, Stat at a path that has no parts. Conditions: the path is empty or one slash.
-/
namespace Go.Proofs.YtjdcjdclipbjhaaGreatDoor
open Go.RowKit Go.Shelf
attribute [local go_sem] Oper.semAt_some

/-- A path without parts. -/
def NoParts (s : ByteArray) (n : Nat) : Prop := Lib.countB s ⟨#[47]⟩ + 1 = n ∧ Lib.splitB ⟨#[47]⟩ 0 (Lib.countB s ⟨#[47]⟩) s = List.replicate n ByteArray.empty ∧ s.size < 2 ∧ n ≤ 2 ∧ 1 ≤ n
theorem noParts_nil : NoParts ⟨#[]⟩ 1 := by unfold NoParts; decide +kernel
theorem noParts_slash : NoParts ⟨#[47]⟩ 2 := by unfold NoParts; decide +kernel

theorem i9 : (Tryz.prog.info? 9).map (fun i => (i.zero, i.size, i.bytes)) = some (some (.string ByteArray.empty), 1, 16) := by kernel_rfl

/-- strings.Split of such a path. -/
theorem split_none (s : ByteArray) (n : Nat) (hs : NoParts s n) (m : Int) (W : World) (hm : W.cell? ⟨0, 0, none⟩ = some (.int .i64 m)) :
    Calls Tryz.prog 14 #[.string s, .string ⟨#[47]⟩] W fun e w' => e = .returned (.slice (some ⟨W.heap.size, 0, none⟩) n n) ∧ Below W.heap.size W w' ∧ (∃ o, w' = W.alloc o) ∧ ∀ j, j < n → w'.cell? ⟨W.heap.size, j, none⟩ = some (.string ⟨#[]⟩) := by
  obtain ⟨h1, h2, h3, h4, h5⟩ := hs
  refine (Any.strings_Split Tryz.lays146 i9 s ⟨#[47]⟩ m W (by omega) hm (by decide)).mono ?_
  rintro e w1 ⟨rfl, rfl⟩
  rw [h2, h1]
  refine ⟨rfl, (Below.refl _ W).alloc (Nat.le_refl _) _, ⟨_, rfl⟩, ?_⟩
  intro j hj
  rw [World.cell?, heap_alloc_new]
  simp [hj]
  rfl

set_option maxRecDepth 100000 in
set_option maxHeartbeats 2000000 in
/-- The iterator over the parts: no round. -/
theorem parts1_calls (l Bn n : Nat) (s : ByteArray) (hs : NoParts s n) (J : World → Prop) (m : Int) (W : World) (hB : W.cell? ⟨Bn, 0, none⟩ = some (.string s)) (hm : W.cell? ⟨0, 0, none⟩ = some (.int .i64 m))
    (hJ : ∀ o, J (W.alloc o)) :
    Calls Tryz.prog 276 #[.func (.yield l) #[] #[], .pointer (some ⟨Bn, 0, none⟩)] W fun e W' => (∃ v, e = .returned v) ∧ J W' := by
  have c := split_none s n hs m W hm
  have hn2 : n ≤ 2 := hs.2.2.2.1
  clear hs
  go_enter Tryz.func276, Tryz.ntmps276
  go_wp2_with fail
  refine c.mono ?_
  rintro e w1 ⟨rfl, hb, ⟨o, ho⟩, hc⟩
  have H : J w1 := by rw [ho]; exact hJ o
  clear hJ ho o
  go_wp2_with fail
  go_loopw [8] (fun p wr => ∃ k : Nat, k ≤ n ∧ p = .int .i64 k ∧ wr = w1) (fun p _ => n - (intOf p).toNat)
  case atStart => exact ⟨0, Nat.zero_le _, rfl, rfl⟩
  case round =>
    obtain ⟨k, hk, rfl, rfl⟩ := hrel
    by_cases hlt : k < n
    · have hck := hc k hlt
      clear hc
      go_wp2_with fail
      exact ⟨⟨k + 1, by omega, by simp, trivial⟩, by simp [intOf]; omega⟩
    · obtain rfl : k = n := by omega
      go_wp2_with fail
      go_end0
      exact ⟨⟨_, rfl⟩, H⟩

/-- The iterator's contract: no round. -/
theorem parts1_stops (k n n₀ Bn : Nat) (s : ByteArray) (hs : NoParts s n) (m : Int) (w : World) (hB : w.cell? ⟨Bn, 0, none⟩ = some (.string s)) (hm : w.cell? ⟨0, 0, none⟩ = some (.int .i64 m)) :
    SeqStopsK Fence.wide k Tryz.prog 276 #[.pointer (some ⟨Bn, 0, none⟩)] (fun v : ByteArray => #[Value.string v]) (Below n₀) (fun xs => xs = []) (fun _ => False) 0 w := by
  intro l J Jx W hW hJ _ _ h0
  have hl1 : Bn < w.heap.size := World.block_lt_of_cell? _ _ hB
  have hl2 : 0 < w.heap.size := World.block_lt_of_cell? _ _ hm
  refine callsIn_wide.2 ((parts1_calls l Bn n s hs (J []) m W ((hW.cell (p := ⟨Bn, 0, none⟩) hl1).trans hB) ((hW.cell (p := ⟨0, 0, none⟩) hl2).trans hm) ?_).mono ?_)
  · intro o
    exact hJ _ _ _ none h0 (World.grownBy_alloc _ _ none) (fun r e => by cases e)
  · rintro e W' ⟨he, hj⟩
    exact ⟨he, .inl ⟨[], rfl, hj⟩⟩

theorem parts_any (s : ByteArray) (W : World) : Calls Tryz.prog 237 #[.string s] W fun e w' => e = .returned (.func (.func 276) #[] #[.pointer (some ⟨W.heap.size, 0, none⟩)]) ∧ w' = W.alloc (.cells #[.string s] 9) := by
  go_enter Tryz.func237, Tryz.ntmps237
  go_wp2_with fail
  go_ret
  exact ⟨rfl, rfl⟩

/-- A new cell. -/
theorem one_new (W : World) (v : Value) (t : TypeId) : (W.alloc (.cells #[v] t)).cell? ⟨W.heap.size, 0, none⟩ = some v ∧ (W.alloc (.cells #[v] t)).frozen? ⟨W.heap.size, 0, none⟩ = false := by
  constructor
  · rw [World.cell?, heap_alloc_new]; rfl
  · rw [World.frozen?, heap_alloc_new]; rfl

set_option maxRecDepth 100000 in
set_option maxHeartbeats 2000000 in
/-- leads, along a path of no parts: where one is. -/
theorem leads_none (t x : Option Addr) (s : ByteArray) (n : Nat) (hs : NoParts s n) (m : Int) (w : World) (hm : w.cell? ⟨0, 0, none⟩ = some (.int .i64 m)) :
    Calls Tryz.prog 185 #[.pointer t, .pointer x, .string s] w fun e w' => e = .returned (.tuple #[.pointer x, .int .i64 0]) ∧ Below w.heap.size w w' := by
  refine callsIn_wide.1 (callsIn_of_wp_marks (n := 3) Tryz.func185 rfl trivial ?_ rfl)
  simp only [Tryz.ntmps185, List.size_toArray, List.length_cons, List.length_nil, Nat.reduceAdd, Nat.reduceSub, Array.replicate_succ, Array.replicate_zero, List.push_toArray, List.append_toArray, List.nil_append, List.cons_append]
  gi_wp2_with (refine ⟨trivial, ?_⟩; gi_at_call 237; refine (callsIn_wide.2 (parts_any s _)).mono ?_; rintro e w' ⟨rfl, rfl⟩)
  have hx0 := one_new w (.pointer x) 193
  have hx1 := one_new (w.alloc (.cells #[.pointer x] 193)) (.pointer none) 193
  have hx2 := one_new ((w.alloc (.cells #[.pointer x] 193)).alloc (.cells #[.pointer none] 193)) (.int .i64 0) 67
  have hx3 := one_new (((w.alloc (.cells #[.pointer x] 193)).alloc (.cells #[.pointer none] 193)).alloc (.cells #[.int .i64 0] 67)) (.string s) 9
  simp only [World.size_alloc] at hx1 hx2 hx3
  have a0 := new_cell (new_cell (new_cell hx0.1 (.cells #[.pointer none] 193)) (.cells #[.int .i64 0] 67)) (.cells #[.string s] 9)
  have a1 := new_cell (new_cell hx1.1 (.cells #[.int .i64 0] 67)) (.cells #[.string s] 9)
  have b1 := new_frozen (new_cell hx1.1 (.cells #[.int .i64 0] 67)) (new_frozen hx1.1 hx1.2 (.cells #[.int .i64 0] 67)) (.cells #[.string s] 9)
  have a2 := new_cell hx2.1 (.cells #[.string s] 9)
  have b2 := new_frozen hx2.1 hx2.2 (.cells #[.string s] 9)
  have hB0 : Below w.heap.size w ((((w.alloc (.cells #[.pointer x] 193)).alloc (.cells #[.pointer none] 193)).alloc (.cells #[.int .i64 0] 67)).alloc (.cells #[.string s] 9)) := ((((Below.refl _ w).alloc (Nat.le_refl _) _).alloc (by simp) _).alloc (by simp; omega) _).alloc (by simp; omega) _
  have hlm : 0 < w.heap.size := World.block_lt_of_cell? _ _ hm
  have am := (hB0.cell (p := ⟨0, 0, none⟩) hlm).trans hm
  refine wpIn_rangeFunc_ownF rfl (by decide) (gf := 276) (lb := #[.pointer (some ⟨w.heap.size + 1 + 1 + 1, 0, none⟩)]) rfl trivial (enters_of Tryz.func276 (by kernel_rfl) rfl)
    (parts1_stops 2 n w.heap.size (w.heap.size + 1 + 1 + 1) s hs m _ hx3.1 am) belowK_t (belowK_b (by simp; omega)) (Below.refl _ _) (fun _ => rfl)
    (fun pre W => (W.cell? ⟨w.heap.size, 0, none⟩ = some (.pointer x) ∧ W.cell? ⟨w.heap.size + 1, 0, none⟩ = some (.pointer none) ∧ W.frozen? ⟨w.heap.size + 1, 0, none⟩ = false ∧ W.cell? ⟨w.heap.size + 1 + 1, 0, none⟩ = some (.int .i64 0) ∧ W.frozen? ⟨w.heap.size + 1 + 1, 0, none⟩ = false) ∧ Below w.heap.size w W)
    (fun _ _ _ => False)
    (OwnFrom.and (Own.from (fun s A B row hs hg hr => ⟨cell_kept hs.1 hg hr, cell_kept hs.2.1 hg hr, (frozen_kept hs.2.1 hg hr).trans hs.2.2.1, cell_kept hs.2.2.2.1 hg hr, (frozen_kept hs.2.2.2.1 hg hr).trans hs.2.2.2.2⟩) _) (ownFrom_below (Nat.le_refl _) (by simp; omega)))
    (fun _ _ _ _ _ hs _ _ => hs)
    ⟨⟨a0, a1, b1, a2, b2⟩, hB0⟩
    (fun v => { tmps := #[.pointer t, .pointer x, .string s, undef, .pointer (some ⟨w.heap.size, 0, none⟩), undef, .pointer (some ⟨w.heap.size + 1, 0, none⟩), .pointer (some ⟨w.heap.size + 1 + 1, 0, none⟩), .string v, undef, undef, .string s, .func (.func 276) #[] #[.pointer (some ⟨w.heap.size + 1 + 1 + 1, 0, none⟩)], .string v, undef, undef, undef, undef, undef, undef, undef, undef, undef, undef, undef, undef, undef, undef, undef, undef, undef, undef, undef, undef, undef, undef, undef, undef, undef, undef, undef, undef, undef, undef, undef, undef, undef], defers := [] }) ?assign ?body ?done ?stop
  case assign =>
    intro l v W K hK
    gi_wp2
    exact hK
  case body =>
    intro l pre v W _ hl
    exact absurd hl (Nat.not_lt_zero _)
  case done =>
    rintro D ys W hD rfl ⟨⟨c0, c1, d1, c2, d2⟩, hB⟩ hK
    gi_wp2
    have hb1 : (W.setCell ⟨w.heap.size + 1, 0, none⟩ (.pointer x)).cell? ⟨w.heap.size + 1 + 1, 0, none⟩ = some (.int .i64 0) := (World.cell?_of_block (Below.heap_setCell W ⟨w.heap.size + 1, 0, none⟩ _ (w.heap.size + 1 + 1) (by show w.heap.size + 1 + 1 ≠ w.heap.size + 1; omega))).trans c2
    have hK' := ((KeepsOthers.setCell W ⟨w.heap.size + 1, 0, none⟩ (.pointer x)).trans (KeepsOthers.setCell _ ⟨w.heap.size + 1 + 1, 0, none⟩ (.int .i64 0))).same D _ hK rfl
    refine ⟨by simp, .inl ⟨_, _, rfl, run_takeDeferred hK', ?_⟩⟩
    have hk5 := cell_kept ((World.cell?_of_block (Below.heap_setCell (W.setCell ⟨w.heap.size + 1, 0, none⟩ (.pointer x)) ⟨w.heap.size + 1 + 1, 0, none⟩ (.int .i64 0) (w.heap.size + 1) (by show w.heap.size + 1 ≠ w.heap.size + 1 + 1; omega))).trans (World.cell?_setCell_same' W ⟨w.heap.size + 1, 0, none⟩ (.pointer x) (by rw [c1]; rfl))) (grownBy_putObj' _ D (.deferred none)) (fun r e => by cases e; exact ⟨_, hK', rfl⟩)
    have hb5 := cell_kept (World.cell?_setCell_same' (W.setCell ⟨w.heap.size + 1, 0, none⟩ (.pointer x)) ⟨w.heap.size + 1 + 1, 0, none⟩ (.int .i64 0) (by rw [hb1]; rfl)) (grownBy_putObj' _ D (.deferred none)) (fun r e => by cases e; exact ⟨_, hK', rfl⟩)
    have hB2 := (hB.setCell (p := ⟨w.heap.size + 1, 0, none⟩) (by simp) (.pointer x)).setCell (p := ⟨w.heap.size + 1 + 1, 0, none⟩) (by simp; omega) (.int .i64 0)
    refine ⟨.tuple #[.pointer x, .int .i64 0], ?_, rfl, hB2.trans (belowK_b (w := w) (Nat.le_refl _) _ D _ _ (by simp at hD; omega) hK' rfl rfl)⟩
    simp [results, Tryz.results185, go_sem, hk5, hb5]
  case stop =>
    rintro D c pre W _ h _ _
    exact h.elim

/-! ## from, look, Stat -/
/-- The tree with the root alone: its root, a directory. -/
def RootAt (W : World) (t r : Nat) : Prop := W.cell? ⟨t, 0, none⟩ = some (.pointer (some ⟨r, 0, none⟩)) ∧ W.cell? ⟨r, 3, none⟩ = some (.bool true)

set_option maxRecDepth 100000 in
set_option maxHeartbeats 2000000 in
theorem from_root (t r : Nat) (m : Int) (w : World) (h : RootAt w t r) (hm : w.cell? ⟨0, 0, none⟩ = some (.int .i64 m)) :
    Calls Tryz.prog 184 #[.pointer (some ⟨t, 0, none⟩), .string ⟨#[]⟩, .string ⟨#[47]⟩] w fun e w' => e = .returned (.tuple #[.pointer (some ⟨r, 0, none⟩), .int .i64 0]) ∧ Below w.heap.size w w' := by
  obtain ⟨h0, h3⟩ := h
  have lt := World.block_lt_of_cell? _ _ h0
  have lr := World.block_lt_of_cell? _ _ h3
  have c := leads_none (some ⟨t, 0, none⟩) (some ⟨r, 0, none⟩) ⟨#[]⟩ 1 noParts_nil m w hm
  go_enter Tryz.func184, Tryz.ntmps184
  go_wp2_with fail
  refine c.mono ?_
  rintro e w1 ⟨rfl, hb⟩
  clear c
  have k0 := (hb.cell (p := ⟨t, 0, none⟩) lt).trans h0
  have k3 := (hb.cell (p := ⟨r, 3, none⟩) lr).trans h3
  go_wp2_with fail
  refine bodyPost_ret (results_tmp2 rfl _ _ _) rfl ?_
  exact ⟨rfl, hb⟩

set_option maxRecDepth 100000 in
set_option maxHeartbeats 2000000 in
theorem look_root (t r : Nat) (m : Int) (w : World) (h : RootAt w t r) (hm : w.cell? ⟨0, 0, none⟩ = some (.int .i64 m)) :
    Calls Tryz.prog 137 #[.pointer (some ⟨t, 0, none⟩), .string ⟨#[]⟩, .string ⟨#[47]⟩] w fun e w' => e = .returned (.tuple #[.pointer (some ⟨r, 0, none⟩), .int .i64 0]) ∧ Below w.heap.size w w' := by
  have c := from_root t r m w h hm
  obtain ⟨h0, h3⟩ := h
  have lt := World.block_lt_of_cell? _ _ h0
  have lr := World.block_lt_of_cell? _ _ h3
  have lm := World.block_lt_of_cell? _ _ hm
  have hsfx : ∀ w : World, Calls Tryz.prog 186 #[.string ⟨#[47]⟩, .string ⟨#[47]⟩] w fun e w' => e = .returned (.bool true) ∧ w' = w := fun w => (Any.strings_HasSuffix Tryz.lays100 ⟨#[47]⟩ ⟨#[47]⟩ w (by decide)).mono fun e w' h => h
  go_enter Tryz.func137, Tryz.ntmps137
  go_wp2_with fail
  refine c.mono ?_
  rintro e w1 ⟨rfl, hb⟩
  clear c
  have k0 := (hb.cell (p := ⟨t, 0, none⟩) lt).trans h0
  have k3 := (hb.cell (p := ⟨r, 3, none⟩) lr).trans h3
  have km := (hb.cell (p := ⟨0, 0, none⟩) lm).trans hm
  go_wp2_with fail
  refine (leads_none (some ⟨t, 0, none⟩) (some ⟨r, 0, none⟩) ⟨#[47]⟩ 2 noParts_slash m w1 km).mono ?_
  rintro e w2 ⟨rfl, hb2⟩
  have hb3 := hb2.mono hb.size
  have k3 := (hb3.cell (p := ⟨r, 3, none⟩) lr).trans k3
  go_wp2_with fail
  refine (hsfx w2).mono ?_
  rintro e w3 ⟨rfl, rfl⟩
  go_wp2_with fail
  refine bodyPost_ret (results_tmp2 rfl _ _ _) rfl ?_
  exact ⟨rfl, hb.trans hb3⟩

end Go.Proofs.YtjdcjdclipbjhaaGreatDoor

/-
  The walk of tree.Stat at the root. Condition: the tree has a root that is a directory.
-/
namespace Go.Proofs.YtjdcjdclipbjhaaGreatDoor
open Go.RowKit

/-- What is told of the root. -/
def rootStat (W : World) (r : Nat) : Prop := ∃ mode tick ino : Int, W.cell? ⟨r, 0, none⟩ = some (.int .i64 ino) ∧ W.cell? ⟨r, 1, none⟩ = some (.int .i64 mode) ∧ W.cell? ⟨r, 2, none⟩ = some (.int .i64 tick) ∧ W.cell? ⟨r, 4, none⟩ = some (.slice none 0 0)

set_option maxRecDepth 100000 in
set_option maxHeartbeats 2000000 in
theorem stat_root (t r : Nat) (m : Int) (w : World) (h : RootAt w t r) (hr : rootStat w r) (hm : w.cell? ⟨0, 0, none⟩ = some (.int .i64 m)) :
    Calls Tryz.prog 76 #[.pointer (some ⟨t, 0, none⟩), .string ⟨#[]⟩, .string ⟨#[47]⟩] w fun e w' => (∃ i md tk sz lk : Int, e = .returned (.tuple #[.agg #[.int .i64 i, .bool true, .int .i64 md, .int .i64 tk, .int .i64 sz, .int .i64 lk], .int .i64 0])) ∧ Below w.heap.size w w' := by
  have c := fun o => look_root t r m (w.alloc o) ⟨new_cell h.1 o, new_cell h.2 o⟩ (new_cell hm o)
  obtain ⟨h0, h3⟩ := h
  obtain ⟨mode, tick, ino, q0, q1, q2, q4⟩ := hr
  have lr := World.block_lt_of_cell? _ _ h3
  go_enter Tryz.func76, Tryz.ntmps76
  go_wp2_with fail
  refine (c _).mono ?_
  rintro e w1 ⟨rfl, hb⟩
  clear c
  have hb1 := below_new hb
  have k0 := (hb1.cell (p := ⟨r, 0, none⟩) lr).trans q0
  have k1 := (hb1.cell (p := ⟨r, 1, none⟩) lr).trans q1
  have k2 := (hb1.cell (p := ⟨r, 2, none⟩) lr).trans q2
  have k3 := (hb1.cell (p := ⟨r, 3, none⟩) lr).trans h3
  have k4 := (hb1.cell (p := ⟨r, 4, none⟩) lr).trans q4
  have hn := cells_new w #[.int .i64 0, .bool false, .int .i64 0, .int .i64 0, .int .i64 0, .int .i64 0] 157
  clear q0 q1 q2 q4 h0 h3 hm
  go_wp2_with fail
  have a0 := new_cell k0 (.cells #[.int .i64 0, .bool false, .int .i64 0, .int .i64 0, .int .i64 0, .int .i64 0] 157)
  have a1 := new_cell k1 (.cells #[.int .i64 0, .bool false, .int .i64 0, .int .i64 0, .int .i64 0, .int .i64 0] 157)
  have a2 := new_cell k2 (.cells #[.int .i64 0, .bool false, .int .i64 0, .int .i64 0, .int .i64 0, .int .i64 0] 157)
  have a3 := new_cell k3 (.cells #[.int .i64 0, .bool false, .int .i64 0, .int .i64 0, .int .i64 0, .int .i64 0] 157)
  have a4 := new_cell k4 (.cells #[.int .i64 0, .bool false, .int .i64 0, .int .i64 0, .int .i64 0, .int .i64 0] 157)
  go_region
  obtain ⟨w2, hw2⟩ : ∃ w2, (w1.alloc (.cells #[.int .i64 ino, .bool true, .int .i64 mode, .int .i64 tick, .int .i64 0, .int .i64 1] 157)).drew = w2 := ⟨_, rfl⟩
  rw [hw2]
  have b3 : w2.cell? ⟨r, 3, none⟩ = some (.bool true) := by rw [← hw2]; exact new_cell k3 _
  have hblk2 : Blk w2 w1.heap.size #[.int .i64 ino, .bool true, .int .i64 mode, .int .i64 tick, .int .i64 0, .int .i64 1] 157 := by
    rw [← hw2]
    exact Blk.drew (Blk.new w1 _ _)
  have g0 := hblk2.cell 0 rfl
  have g1 := hblk2.cell 1 rfl
  have g2 := hblk2.cell 2 rfl
  have g3 := hblk2.cell 3 rfl
  have g4 := hblk2.cell 4 rfl
  have g5 := hblk2.cell 5 rfl
  have hlt : w.heap.size < w1.heap.size := by have := hb.size; simp at this; omega
  have hblk : Blk w2 w.heap.size #[.int .i64 0, .bool false, .int .i64 0, .int .i64 0, .int .i64 0, .int .i64 0] 157 := by
    rw [← hw2]
    exact Blk.drew (Blk.alloc ((Blk.new w _ _).keep hb (by simp)) _)
  have hb2 : Below w.heap.size w w2 := by
    rw [← hw2]
    exact (hb1.alloc hb1.size _).drew
  have e0 := hblk.cell 0 rfl
  have f0 := hblk.free 0
  have e1 := hblk.cell 1 rfl
  have f1 := hblk.free 1
  have e2 := hblk.cell 2 rfl
  have f2 := hblk.free 2
  have e3 := hblk.cell 3 rfl
  have f3 := hblk.free 3
  have e4 := hblk.cell 4 rfl
  have f4 := hblk.free 4
  have e5 := hblk.cell 5 rfl
  have f5 := hblk.free 5
  have HB := Lib.hid hblk
  clear hblk hblk2 hw2 hn a0 a1 a2 a3 a4 k0 k1 k2 k3 k4
  go_wp2_with fail
  have HS := ((((((HB.out.set 0 (.int .i64 ino)).set 1 (.bool true)).set 2 (.int .i64 mode)).set 3 (.int .i64 tick)).set 4 (.int .i64 0)).set 5 (.int .i64 1))
  have r0 := HS.cell 0 rfl
  have r1 := HS.cell 1 rfl
  have r2 := HS.cell 2 rfl
  have r3 := HS.cell 3 rfl
  have r4 := HS.cell 4 rfl
  have r5 := HS.cell 5 rfl
  refine bodyPost_ret (v := .tuple #[.agg #[.int .i64 ino, .bool true, .int .i64 mode, .int .i64 tick, .int .i64 0, .int .i64 1], .int .i64 0]) ?_ rfl ⟨⟨ino, mode, tick, 0, 1, rfl⟩, ?_⟩
  · simp [results, Tryz.results76, go_sem, r0, r1, r2, r3, r4, r5]
  · refine hb2.trans ?_
    exact ((((((Below.refl w.heap.size w2).setCell (p := ⟨w.heap.size, 0, none⟩) (Nat.le_refl _) _).setCell (p := ⟨w.heap.size, 1, none⟩) (Nat.le_refl _) _).setCell (p := ⟨w.heap.size, 2, none⟩) (Nat.le_refl _) _).setCell (p := ⟨w.heap.size, 3, none⟩) (Nat.le_refl _) _).setCell (p := ⟨w.heap.size, 4, none⟩) (Nat.le_refl _) _).setCell (p := ⟨w.heap.size, 5, none⟩) (Nat.le_refl _) _

end Go.Proofs.YtjdcjdclipbjhaaGreatDoor
