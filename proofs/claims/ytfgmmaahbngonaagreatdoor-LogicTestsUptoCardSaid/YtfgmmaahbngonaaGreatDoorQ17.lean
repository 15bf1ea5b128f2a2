/-
  Texts of this seat put together: GNum, GW10, GW11.
-/
import Derived.Test.YtfgmmaahbngonaaGreatDoorQ15
import Derived.Shelf.Strings.SlTrimAscii
import Derived.Lib.ParseIntBTie
import Derived.Test.YtfgmmaahbngonaaGreatDoorQ16
import Derived.Lib.QuietBelow

/-
  The walk of text.Number; the plain law of digits' values. Conditions: the strings are no longer than memory allows; the library's variables hold errors.
-/
namespace Go.Proofs.YtfgmmaahbngonaaGreatDoor.Rg.Ord
open Go
abbrev Bytes := List UInt8
def digit (c : UInt8) : Bool := 48 ≤ c && c ≤ 57
def value (s : Bytes) : Nat := s.foldl (fun n c => n * 10 + (c.toNat - 48)) 0
/-- text.Number. -/
def number (s : Bytes) (most : Int) : Option Int :=
  if !s.isEmpty && s.all digit && decide ((value s : Int) ≤ most) then some (value s) else none
/-! ParseInt of digits alone. -/
def valueFrom (a : Nat) (s : Bytes) : Nat := s.foldl (fun n c => n * 10 + (c.toNat - 48)) a

theorem valueFrom_ge (s : Bytes) : ∀ a, a ≤ valueFrom a s := by
  induction s with
  | nil => intro a; exact Nat.le_refl _
  | cons c r ih => intro a; have := ih (a * 10 + (c.toNat - 48)); simp only [valueFrom, List.foldl_cons] at this ⊢; omega

theorem digit_nat {c : UInt8} (h : digit c = true) : 48 ≤ c.toNat ∧ c.toNat ≤ 57 := by
  simpa [digit, UInt8.le_iff_toNat_le] using h

theorem parseUintM_digits (s : Bytes) : ∀ a, s.all digit = true → a ≤ 18446744073709551615 →
    Lib.parseUintM 18446744073709551615 a s = if valueFrom a s ≤ 18446744073709551615 then .ok (valueFrom a s) else .range := by
  induction s with
  | nil => intro a _ ha; simp [Lib.parseUintM, valueFrom, ha]
  | cons c r ih =>
    intro a hs ha
    simp only [List.all_cons, Bool.and_eq_true] at hs
    have hd := digit_nat hs.1
    have hv := valueFrom_ge r (a * 10 + (c.toNat - 48))
    have e : valueFrom a (c :: r) = valueFrom (a * 10 + (c.toNat - 48)) r := rfl
    simp only [Lib.parseUintM, if_pos hd]
    rw [e]
    by_cases h1 : 1844674407370955162 ≤ a
    · rw [if_pos h1, if_neg (by omega)]
    · rw [if_neg h1]
      by_cases h2 : 18446744073709551615 < a * 10 + (c.toNat - 48)
      · rw [if_pos h2, if_neg (by omega)]
      · rw [if_neg h2]; exact ih _ hs.2 (by omega)

theorem parseIntB_digits (s : Bytes) (hs : s.all digit = true) (h0 : s ≠ []) :
    Lib.parseIntB 64 s = if value s < 9223372036854775808 then .ok (value s : Int) else .range := by
  match s, hs, h0 with
  | c :: r, hs, _ =>
    have hd := digit_nat (by simp only [List.all_cons, Bool.and_eq_true] at hs; exact hs.1)
    have hu : Lib.parseUintB 64 (c :: r) = if value (c :: r) ≤ 18446744073709551615 then .ok (value (c :: r)) else .range := by
      unfold Lib.parseUintB
      rw [if_neg (by simp)]
      exact parseUintM_digits (c :: r) 0 hs (by omega)
    have hu' : Lib.parseUintB 64 (if c.toNat = 43 ∨ c.toNat = 45 then r else c :: r) = if value (c :: r) ≤ 18446744073709551615 then .ok (value (c :: r)) else .range := by
      rw [if_neg (by omega)]; exact hu
    simp only [Lib.parseIntB, hu']
    have h45 : ¬ c.toNat = 45 := by omega
    by_cases h1 : value (c :: r) ≤ 18446744073709551615
    · rw [if_pos h1]
      by_cases h2 : value (c :: r) < 9223372036854775808
      · rw [if_pos h2]; simp [h45]; omega
      · rw [if_neg h2]; simp [h45]; omega
    · rw [if_neg h1, if_neg (by omega)]

theorem number_none_of (s : Bytes) (most : Int) (h : s = [] ∨ s.all digit = false ∨ most < value s) : number s most = none := by
  unfold number
  rcases h with h | h | h
  · simp [h]
  · simp [h]
  · rw [if_neg]; simp; intro _ _; omega
theorem number_some_of (s : Bytes) (most : Int) (h0 : s ≠ []) (h : s.all digit = true) (hv : (value s : Int) ≤ most) : number s most = some (value s : Int) := by
  unfold number
  rw [if_pos]
  simp [h0, h, hv]

end Go.Proofs.YtfgmmaahbngonaaGreatDoor.Rg.Ord

namespace Go.Proofs.YtfgmmaahbngonaaGreatDoor.Rg
open Go.RowKit Go.Shelf

theorem digit_int (c : UInt8) : Ord.digit c = (decide ((48 : Int) ≤ c.toNat) && decide ((c.toNat : Int) ≤ 57)) := by
  simp only [Ord.digit, u8_le]; rfl
theorem digit_no {c : UInt8} (h : (c.toNat : Int) < 48 ∨ 57 < (c.toNat : Int)) : Ord.digit c = false := by
  rw [digit_int]; simp; omega
theorem digit_yes {c : UInt8} (h : (48 : Int) ≤ c.toNat) (h' : (c.toNat : Int) ≤ 57) : Ord.digit c = true := by
  rw [digit_int]; simp; omega

theorem trimLeft_any (l cs : Ord.Bytes) (q : UInt8 → Bool) (hq : ∀ c, List.contains cs c = q c) (hcs : cs.all (fun b => decide (b.toNat < 128)) = true) (hl : cs.length < 4294967281) (w : World) :
    Calls Tryz.prog 284 #[.string ⟨l.toArray⟩, .string ⟨cs.toArray⟩] w fun e w' => e = .returned (.string ⟨(l.dropWhile q).toArray⟩) ∧ Below w.heap.size w w' := by
  have h : Calls Tryz.prog 284 _ w _ := Any.strings_TrimLeft_laid Tryz.lays161 (by kernel_rfl) ⟨l.toArray⟩ ⟨cs.toArray⟩ w (by simpa [ByteArray.size] using hl) (ascii_of_all hcs)
  obtain rfl : (cs.contains ·) = q := funext hq
  exact h

theorem digit_contains (c : UInt8) : List.contains [48, 49, 50, 51, 52, 53, 54, 55, 56, 57] c = Ord.digit c := by
  rw [Bool.eq_iff_iff]
  simp [Ord.digit, u8_eq, u8_le]
  omega
theorem take_sub_drop (l : Ord.Bytes) (p : UInt8 → Bool) : l.take (l.length - (l.dropWhile p).length) = l.takeWhile p := by
  have h : l.takeWhile p ++ l.dropWhile p = l := List.takeWhile_append_dropWhile
  have hl : (l.takeWhile p).length + (l.dropWhile p).length = List.length l := by rw [← List.length_append, h]
  have e : l.take (l.length - (l.dropWhile p).length) = (l.takeWhile p ++ l.dropWhile p).take (l.takeWhile p).length := by rw [h]; congr 1; omega
  rw [e, List.take_left]

/-- text.Number's answer. -/
def numVal (l : Ord.Bytes) (most : Int) : Value := match Ord.number l most with
  | none => .tuple #[.int .i64 0, .bool false]
  | some v => .tuple #[.int .i64 v, .bool true]

theorem parseInt_bad (l : Ord.Bytes) (hl : l.length ≤ 140737488351232) (h : l = [] ∨ (l.all Ord.digit = true ∧ 9223372036854775808 ≤ Ord.value l)) (w : World) (hg : Glo w) :
    Calls Tryz.prog 155 #[.string ⟨l.toArray⟩, .int .i64 10, .int .i64 64] w fun e w' => (∃ n t a, e = .returned (.tuple #[.int .i64 n, .iface t (.pointer (some a))])) ∧ Below w.heap.size w w' := by
  obtain ⟨⟨t1, p1, h1⟩, ⟨t2, p2, h2⟩, -⟩ := hg
  by_cases h0 : l = []
  · subst h0
    exact (Any.strconv_ParseInt_10_at64_syntax_var Tryz.laysC174 ⟨#[]⟩ (by decide) rfl t1 p1 w h1).mono fun e w' ⟨N, he, _, _, hb⟩ => ⟨⟨_, _, _, he⟩, hb⟩
  · rcases h with h | ⟨ha, hv⟩
    · exact absurd h h0
    · exact (Any.strconv_ParseInt_10_at64_range_var Tryz.laysC174 ⟨l.toArray⟩ (by simp [ByteArray.size]; omega) (by rw [Ord.parseIntB_digits l ha h0, if_neg (by omega)]) t2 p2 w h2).mono fun e w' ⟨N, he, _, _, hb⟩ => ⟨⟨_, _, _, he⟩, hb⟩

theorem parseInt_good (l : Ord.Bytes) (hl : l.length ≤ 140737488351232) (h0 : l ≠ []) (ha : l.all Ord.digit = true) (hv : Ord.value l < 9223372036854775808) (w : World) :
    Calls Tryz.prog 155 #[.string ⟨l.toArray⟩, .int .i64 10, .int .i64 64] w fun e w' => e = .returned (.tuple #[.int .i64 (Ord.value l), .nilIface]) ∧ Below w.heap.size w w' := by
  refine (Any.strconv_ParseInt_10_at64_ok Tryz.laysC174 ⟨l.toArray⟩ (by simp [ByteArray.size]; omega) (Ord.value l) (by rw [Ord.parseIntB_digits l ha h0, if_pos hv]) w).mono fun e w' ⟨he, hw⟩ => ⟨he, ?_⟩
  rcases hw with rfl | ⟨t, rfl⟩
  · exact Below.refl _ _
  · exact Lib.bytesWorld_below _ _ _

/-- Are so many of the first bytes digits? -/
theorem all_take (l : Ord.Bytes) (k : Nat) (hk : k < l.length) : (l.take (k + 1)).all Ord.digit = ((l.take k).all Ord.digit && Ord.digit (l.getD k 0)) := by
  rw [List.take_succ_eq_append_getElem hk, List.all_append]
  simp [List.getD_eq_getElem?_getD, List.getElem?_eq_getElem hk]

theorem all_false_at (l : Ord.Bytes) (k : Nat) (hk : k < l.length) (h : Ord.digit (l.getD k 0) = false) : l.all Ord.digit = false := by
  rw [List.all_eq_false]
  exact ⟨l.getD k 0, by rw [List.getD_eq_getElem?_getD, List.getElem?_eq_getElem hk]; exact List.getElem_mem hk, by rw [h]; decide⟩

theorem numVal_none {l : Ord.Bytes} {most : Int} (h : l = [] ∨ l.all Ord.digit = false ∨ most < Ord.value l) : numVal l most = .tuple #[.int .i64 0, .bool false] := by
  unfold numVal; rw [Ord.number_none_of l most h]
theorem numVal_some {l : Ord.Bytes} {most : Int} (h0 : l ≠ []) (h : l.all Ord.digit = true) (hv : (Ord.value l : Int) ≤ most) : numVal l most = .tuple #[.int .i64 (Ord.value l), .bool true] := by
  unfold numVal; rw [Ord.number_some_of l most h0 h hv]

set_option maxRecDepth 100000 in
theorem based_any (l : Ord.Bytes) (most : Int) (hl : l.length ≤ 140737488351232) (hm0 : 0 ≤ most) (hm : most ≤ 2147483647) (w : World) (hg : Glo w) (hB : 8 ≤ w.heap.size) :
    Calls Tryz.prog 290 #[.string ⟨l.toArray⟩, .int .i64 most, .int .i64 10] w fun e w' => e = .returned (numVal l most) ∧ Below w.heap.size w w' := by
  have hconv := fun w => Lib.run_convert_string_bytes (P := Tryz.prog) w 9 28 5 ⟨l.toArray⟩ Tryz.underlying9 Tryz.underlying28 Tryz.underlying5
  have hsz : (⟨l.toArray⟩ : ByteArray).size = l.length := by simp [ByteArray.size]
  simp only [hsz] at hconv
  have hbel := Lib.bytesWorld_below w 5 ⟨l.toArray⟩
  have hcell : ∀ j, j < l.length → (Lib.bytesWorld w 5 ⟨l.toArray⟩).cell? ⟨w.heap.size, j, none⟩ = some (.int .u8 (l.getD j 0).toNat) := fun j hj => Lib.bytesWorld_cell w 5 ⟨l.toArray⟩ j (by rw [hsz]; exact hj)
  have hsize := Lib.bytesWorld_size w 5 ⟨l.toArray⟩
  go_enter Tryz.func290, Tryz.ntmps290
  go_wp2_with fail
  clear hconv
  generalize Lib.bytesWorld w 5 ⟨l.toArray⟩ = w1 at *
  have hg1 := hg.kept (Kept.of_below (S := fun _ => False) hbel) (fun _ h => h.elim) hB
  go_loop [15] (fun i => ∃ k : Nat, k ≤ l.length ∧ (l.take k).all Ord.digit = true ∧ i = .int .i64 k) (fun i => l.length - (intOf i).toNat)
  case atStart => exact ⟨0, Nat.zero_le _, rfl, rfl⟩
  case round =>
    obtain ⟨k, hk, hall, rfl⟩ := hrel
    have HA := Lib.hid hall; clear hall
    by_cases hlt : k < l.length
    · have hc := hcell k hlt
      have hbd := u8_bd (l.getD k 0)
      have eg : l[k] = l.getD k 0 := by simp [List.getD_eq_getElem?_getD, List.getElem?_eq_getElem hlt]
      have EG := Lib.hid eg; clear eg
      go_wp2_with fail
      · have h1 : (l[k].toNat : Int) < 48 := by assumption
        rw [EG.out] at h1
        go_ret2
        refine ⟨?_, hbel⟩
        rw [numVal_none (.inr (.inl (all_false_at l k hlt (digit_no (by omega)))))]; rfl
      · have h1 : 10 ≤ ((l[k].toNat : Int) - 48) % 256 := by assumption
        rw [EG.out] at h1
        go_ret2
        refine ⟨?_, hbel⟩
        rw [numVal_none (.inr (.inl (all_false_at l k hlt (digit_no (by omega)))))]; rfl
      · have h1 : ((l[k].toNat : Int) - 48) % 256 < 10 := by assumption
        have h2 : ¬ (l[k].toNat : Int) < 48 := by assumption
        rw [EG.out] at h1 h2
        go_round
        case rel => exact ⟨k + 1, by omega, by rw [all_take l k hlt, HA.out, digit_yes (by omega) (by omega)]; rfl, by go_num⟩
        case measure => simp [intOf]; omega
    · obtain rfl : k = l.length := by omega
      have hall : l.all Ord.digit = true := by simpa using HA.out
      have HA2 := Lib.hid hall; clear hall HA
      by_cases h0 : l = [] ∨ 9223372036854775808 ≤ Ord.value l
      · have HN := Lib.hid (show numVal l most = .tuple #[.int .i64 0, .bool false] from numVal_none (by rcases h0 with h | h; exact .inl h; exact .inr (.inr (by omega))))
        have hbad := fun w => parseInt_bad l hl (h0.imp id fun h => ⟨HA2.out, h⟩) w
        clear h0
        go_wp2_with (go_at_call 155; refine (hbad _ hg1).mono ?_; rintro e w2 ⟨⟨n, t, a, rfl⟩, hb2⟩)
        go_ret2
        exact ⟨by rw [HN.out]; rfl, hbel.trans (hb2.mono (by omega))⟩
      · have hn0 : l ≠ [] := fun h => h0 (.inl h)
        have hv : Ord.value l < 9223372036854775808 := by rcases Nat.lt_or_ge (Ord.value l) 9223372036854775808 with h | h; exact h; exact absurd (.inr h) h0
        have hgood := fun w => parseInt_good l hl hn0 HA2.out hv w
        clear h0
        by_cases hv2 : (Ord.value l : Int) ≤ most
        · have HN := Lib.hid (numVal_some (most := most) hn0 HA2.out hv2)
          clear hn0
          go_wp2_with (go_at_call 155; refine (hgood _).mono ?_; rintro e w2 ⟨rfl, hb2⟩)
          go_ret2
          exact ⟨by rw [HN.out]; rfl, hbel.trans (hb2.mono (by omega))⟩
        · have HN := Lib.hid (show numVal l most = .tuple #[.int .i64 0, .bool false] from numVal_none (.inr (.inr (by omega))))
          clear hn0
          go_wp2_with (go_at_call 155; refine (hgood _).mono ?_; rintro e w2 ⟨rfl, hb2⟩)
          go_ret2
          exact ⟨by rw [HN.out]; rfl, hbel.trans (hb2.mono (by omega))⟩

set_option maxRecDepth 100000 in
theorem number_any (l : Ord.Bytes) (most : Int) (hl : l.length ≤ 140737488351232) (hm0 : 0 ≤ most) (hm : most ≤ 2147483647) (w : World) (hg : Glo w) (hB : 8 ≤ w.heap.size) :
    Calls Tryz.prog 285 #[.string ⟨l.toArray⟩, .int .i64 most] w fun e w' => e = .returned (numVal l most) ∧ Below w.heap.size w w' := by
  have hb := fun w' hg' hB' => based_any l most hl hm0 hm w' hg' hB'
  have hx : ∃ n b, numVal l most = .tuple #[.int .i64 n, .bool b] := by
    unfold numVal; split <;> exact ⟨_, _, rfl⟩
  obtain ⟨n, b, hx⟩ := hx
  rw [hx] at hb ⊢
  clear hx
  go_enter Tryz.func285, Tryz.ntmps285
  go_wp2_with (go_at_call 290; refine (hb _ hg hB).mono ?_; rintro e w1 ⟨rfl, hb1⟩)
  go_ret2
  exact ⟨rfl, hb1⟩

end Go.Proofs.YtfgmmaahbngonaaGreatDoor.Rg

/-
  The walks of number, times, piece. Condition: what is told lies in memory.
-/
namespace Go.Proofs.YtfgmmaahbngonaaGreatDoor.Rg
open Go.RowKit Go.Shelf Go.Maps Go.Sort

theorem digit_same : Rx.digit = Ord.digit := rfl
theorem rx_number (s : Rx.Bytes) : Rx.number s = (Ord.number (s.takeWhile Ord.digit) 255).map fun v => (v.toNat, s.dropWhile Ord.digit) := by
  have ha : (s.takeWhile Ord.digit).all Ord.digit = true := List.all_takeWhile
  unfold Rx.number
  simp only []
  rw [digit_same]
  unfold Ord.number
  rw [ha]
  have hv : Rx.value (s.takeWhile Ord.digit) = Ord.value (s.takeWhile Ord.digit) := rfl
  rw [hv]
  have e : decide (((Ord.value (s.takeWhile Ord.digit) : Nat) : Int) ≤ 255) = decide (Ord.value (s.takeWhile Ord.digit) ≤ 255) := by congr 1; apply propext; omega
  rw [e, Bool.and_true]
  by_cases h : (!(s.takeWhile Ord.digit).isEmpty && decide (Ord.value (s.takeWhile Ord.digit) ≤ 255)) = true
  · rw [if_pos h, if_pos h]; rfl
  · rw [if_neg h, if_neg h]; rfl

theorem ord_number_nat {s : Ord.Bytes} {m v : Int} (h : Ord.number s m = some v) : ((v.toNat : Nat) : Int) = v := by
  unfold Ord.number at h
  split at h
  · cases h; omega
  · cases h

def NumPost (r : Nat) (s : Rx.Bytes) (ext fold : Bool) (e : Ending) (w' : World) : Prop := match Rx.number s with
  | none => e = .panicked [{ v := brokenV, recovered := false }]
  | some (n, s') => e = .returned (.int .i64 n) ∧ RdAt w' r s' ext fold

set_option maxHeartbeats 1600000 in
set_option maxRecDepth 100000 in
theorem rnumber_any (r : Nat) (s : Rx.Bytes) (ext fold : Bool) (w : World) (hr : Rd w r s ext fold) :
    Calls Tryz.prog 280 #[.pointer (some ⟨r, 0, none⟩)] w fun e w' => NumPost r s ext fold e w' ∧ Kept (· = r) w w' := by
  have h8 := hr.hr
  have hlen := hr.len
  have c0 : w.cell? ⟨r, 0, none⟩ = some (.string ⟨s.toArray⟩) := Blk.cell hr.at_ 0 rfl
  have htl := trimLeft_any s [48, 49, 50, 51, 52, 53, 54, 55, 56, 57] Ord.digit digit_contains (by decide) (by decide) w
  have hd : (s.dropWhile Ord.digit).length ≤ s.length := (List.dropWhile_sublist _).length_le
  have htt : (s.takeWhile Ord.digit).length ≤ s.length := (List.takeWhile_sublist _).length_le
  have HT := Lib.hid (take_sub_drop s Ord.digit)
  have HX := Lib.hid (rx_number s)
  have HR := Lib.hid hr
  have HP : Hid (∀ x, Rx.number s = x → ∀ e w', (match x with
    | none => e = .panicked [{ v := brokenV, recovered := false }]
    | some (n, s') => e = .returned (.int .i64 n) ∧ RdAt w' r s' ext fold) → NumPost r s ext fold e w') := by
    rintro x rfl e w' h; exact h
  clear hr
  go_enter Tryz.func280, Tryz.ntmps280
  go_wp2_with fail
  refine htl.mono ?_
  rintro e w1 ⟨rfl, hb1⟩
  have hr1 : Rd w1 r s ext fold := HR.out.self (Kept.of_below hb1) (HR.out.at_.keep hb1 HR.out.lt) (Nat.le_refl _)
  have HK1 := Lib.hid (Kept.of_below (S := (· = r)) hb1)
  have c1 : w1.cell? ⟨r, 0, none⟩ = some (.string ⟨s.toArray⟩) := Blk.cell hr1.at_ 0 rfl
  clear htl c0 hb1
  go_upto_region 2 with fail
  have hpa : ∀ d os, Calls Tryz.prog 285 #[.string ⟨(s.takeWhile Ord.digit).toArray⟩, .int .i64 255] (grow (redrawn w1 d) os) fun e w' => e = .returned (numVal (s.takeWhile Ord.digit) 255) ∧ ∃ p : Regrown, w' = grow (redrawn w1 p.d) p.os := fun d os => by
    refine Calls.regrown_of (number_any (s.takeWhile Ord.digit) 255 (by omega) (by decide) (by decide) _ ?_ ?_)
    · exact hr1.glo.kept (Kept.of_below (S := fun _ => False) (below_regrown w1 d os)) (fun _ h => h.elim) (by have := hr1.lt; omega)
    · have := (below_regrown w1 d os).size; have := hr1.lt; omega
  have kk := cell_regrown c1
  have hsub : ((s.length : Int) - ((s.dropWhile Ord.digit).length : Int)) = (((s.takeWhile Ord.digit).length : Nat) : Int) := by
    have h := congrArg List.length (List.takeWhile_append_dropWhile (p := Ord.digit) (l := s))
    simp only [List.length_append] at h
    omega
  have hwr : IntKind.i64.wrap (((s.takeWhile Ord.digit).length : Nat) : Int) = (((s.takeWhile Ord.digit).length : Nat) : Int) := by
    have : (((s.takeWhile Ord.digit).length : Nat) : Int) < 1073741824 := by omega
    simp [IntKind.wrap, IntKind.signed, IntKind.bits]; omega
  have hex : (⟨s.toArray⟩ : ByteArray).extract 0 (s.takeWhile Ord.digit).length = ⟨(s.takeWhile Ord.digit).toArray⟩ := by
    rw [extract_take]
    congr 2
    have h := List.takeWhile_append_dropWhile (p := Ord.digit) (l := s)
    have h2 : (s.takeWhile Ord.digit ++ s.dropWhile Ord.digit).take (s.takeWhile Ord.digit).length = s.takeWhile Ord.digit := List.take_left
    rw [h] at h2
    exact h2
  have hd2 : (s.dropWhile Ord.digit).length < 1073741824 := by omega
  cases hn : Ord.number (s.takeWhile Ord.digit) 255 with
  | none =>
    have hnv : numVal (s.takeWhile Ord.digit) 255 = .tuple #[.int .i64 0, .bool false] := by unfold numVal; rw [hn]
    rw [hnv] at hpa
    have HX2 : Hid (Rx.number s = none) := by show _ = _; rw [HX.out, hn]; rfl
    clear hn hnv
    refine wp_region_quiet_below (by kernel_rfl) (by kernel_rfl) ?_
    repeat (quiet_step (first | with_reducible exact hpa _ _))
    refine wpQuiet_nil ?_
    intro _ hw'
    obtain ⟨⟨dq, osq⟩, hw''⟩ := hw'
    subst hw''
    have hbb := below_regrown w1 dq osq
    have HK2 : Hid (Kept (· = r) w (grow (redrawn w1 dq) osq)) := HK1.out.trans (Kept.of_below hbb)
    clear hpa kk hbb
    generalize grow (redrawn w1 dq) osq = w2 at *
    go_wp2_with fail
    refine (fail_any _).mono ?_
    rintro e w3 ⟨rfl, rfl⟩
    go_wp2_with fail
    exact ⟨rfl, HP.out none HX2.out _ _ rfl, HK2.out⟩
  | some v =>
    have hnv : numVal (s.takeWhile Ord.digit) 255 = .tuple #[.int .i64 v, .bool true] := by unfold numVal; rw [hn]
    rw [hnv] at hpa
    have hvn := ord_number_nat hn
    have HX2 : Hid (Rx.number s = some (v.toNat, s.dropWhile Ord.digit)) := by show _ = _; rw [HX.out, hn]; rfl
    clear hn hnv
    refine wp_region_quiet_below (by kernel_rfl) (by kernel_rfl) ?_
    repeat (quiet_step (first | with_reducible exact hpa _ _))
    refine wpQuiet_nil ?_
    intro _ hw'
    obtain ⟨⟨dq, osq⟩, hw''⟩ := hw'
    subst hw''
    have hbb := below_regrown w1 dq osq
    have HK2 : Hid (Kept (· = r) w (grow (redrawn w1 dq) osq)) := HK1.out.trans (Kept.of_below hbb)
    have hr2 := hr1.at_.keep hbb hr1.lt
    clear hpa kk hbb hr1 c1
    generalize grow (redrawn w1 dq) osq = w2 at *
    have c0 : w2.cell? ⟨r, 0, none⟩ = some (.string ⟨s.toArray⟩) := Blk.cell hr2 0 rfl
    have f0 := hr2.free 0
    go_wp2_with fail
    go_ret
    refine ⟨HP.out _ HX2.out _ _ ⟨by rw [hvn]; rfl, hr2.set 0 _⟩, HK2.out.setCell (.inl rfl) 0 _⟩

/-- What times hands back. -/
def timesVal : Option (Nat × Int) → Value
  | none => .tuple #[.int .i64 0, .int .i64 0, .bool false]
  | some (m, n) => .tuple #[.int .i64 m, .int .i64 n, .bool true]
def TimesPost (r : Nat) (s : Rx.Bytes) (ext fold : Bool) (e : Ending) (w' : World) : Prop := match Rx.times ext s with
  | none => e = .panicked [{ v := brokenV, recovered := false }]
  | some (x, s') => e = .returned (timesVal x) ∧ RdAt w' r s' ext fold

theorem number_len {s s' : Rx.Bytes} {n : Nat} (h : Rx.number s = some (n, s')) : s'.length ≤ s.length := by
  unfold Rx.number at h
  simp only [] at h
  split at h
  · cases h; exact (List.dropWhile_sublist _).length_le
  · cases h

/-- A reader that walks on. -/
structure Go1 (w wx : World) (r : Nat) (s : Rx.Bytes) (ext fold : Bool) : Prop where
  rd : Rd wx r s ext fold
  kept : Kept (· = r) w wx
theorem Go1.go {w wx w' : World} {r : Nat} {s s' : Rx.Bytes} {ext fold : Bool} (G : Go1 w wx r s ext fold) (hr : RdAt w' r s' ext fold) (hk : Kept (· = r) wx w') (hl : s'.length ≤ s.length) : Go1 w w' r s' ext fold :=
  ⟨G.rd.self hk hr hl, G.kept.trans hk⟩
theorem Go1.cell {w wx : World} {r : Nat} {s : Rx.Bytes} {ext fold : Bool} (G : Go1 w wx r s ext fold) : wx.cell? ⟨r, 0, none⟩ = some (.string ⟨s.toArray⟩) := Blk.cell G.rd.at_ 0 rfl
theorem Go1.ext {w wx : World} {r : Nat} {s : Rx.Bytes} {ext fold : Bool} (G : Go1 w wx r s ext fold) : wx.cell? ⟨r, 1, none⟩ = some (.bool ext) := Blk.cell G.rd.at_ 1 rfl
/-- take, of a reader that walks on. -/
theorem Go1.take {w wx : World} {r : Nat} {s : Rx.Bytes} {ext fold : Bool} (G : Go1 w wx r s ext fold) (t : Rx.Bytes) (x : Option Rx.Bytes) (hx : Rx.take t s = x) :
    Calls Tryz.prog 243 #[.pointer (some ⟨r, 0, none⟩), .string ⟨t.toArray⟩] wx fun e w' => e = .returned (.bool x.isSome) ∧ Go1 w w' r (x.getD s) ext fold := by
  refine (take_any r t s ext fold wx G.rd.at_).mono ?_
  rintro e w' ⟨h1, hk⟩
  unfold TakePost at h1
  rw [hx] at h1
  cases x with
  | none => exact ⟨h1.1, G.go h1.2 hk (Nat.le_refl _)⟩
  | some s' => exact ⟨h1.1, G.go h1.2 hk (take_len hx)⟩
theorem Go1.number {w wx : World} {r : Nat} {s : Rx.Bytes} {ext fold : Bool} (G : Go1 w wx r s ext fold) (x : Option (Nat × Rx.Bytes)) (hx : Rx.number s = x) :
    Calls Tryz.prog 280 #[.pointer (some ⟨r, 0, none⟩)] wx fun e w' => match x with
      | none => e = .panicked [{ v := brokenV, recovered := false }] ∧ Kept (· = r) w w'
      | some (n, s') => e = .returned (.int .i64 n) ∧ Go1 w w' r s' ext fold := by
  refine (rnumber_any r s ext fold wx G.rd).mono ?_
  rintro e w' ⟨h1, hk⟩
  unfold NumPost at h1
  rw [hx] at h1
  cases x with
  | none => exact ⟨h1, G.kept.trans hk⟩
  | some y => obtain ⟨n, s'⟩ := y; exact ⟨h1.1, G.go h1.2 hk (number_len hx)⟩
theorem Go1.must {w wx : World} {r : Nat} {s : Rx.Bytes} {ext fold : Bool} (G : Go1 w wx r s ext fold) (t : Rx.Bytes) (x : Option Rx.Bytes) (hx : Rx.take t s = x) :
    Calls Tryz.prog 269 #[.pointer (some ⟨r, 0, none⟩), .string ⟨t.toArray⟩] wx fun e w' => match x with
      | none => e = .panicked [{ v := brokenV, recovered := false }] ∧ Kept (· = r) w w'
      | some s' => e = .returned (.tuple #[]) ∧ Go1 w w' r s' ext fold := by
  refine (must_any r t s ext fold wx G.rd.at_).mono ?_
  rintro e w' ⟨h1, hk⟩
  unfold MustPost at h1
  rw [hx] at h1
  cases x with
  | none => exact ⟨h1, G.kept.trans hk⟩
  | some s' => exact ⟨h1.1, G.go h1.2 hk (take_len hx)⟩
theorem Go1.next {w wx : World} {r : Nat} {s : Rx.Bytes} {ext fold : Bool} (G : Go1 w wx r s ext fold) :
    Calls Tryz.prog 246 #[.pointer (some ⟨r, 0, none⟩)] wx fun e w' => match s with
      | [] => e = .panicked [{ v := brokenV, recovered := false }] ∧ Kept (· = r) w w'
      | c :: s' => e = .returned (.int .u8 c.toNat) ∧ Go1 w w' r s' ext fold := by
  refine (next_any r s ext fold wx G.rd.at_).mono ?_
  rintro e w' ⟨h1, hk⟩
  unfold NextPost at h1
  cases s with
  | nil => exact ⟨h1, G.kept.trans hk⟩
  | cons c s' => exact ⟨h1.1, G.go h1.2 hk (by simp)⟩

set_option maxHeartbeats 1600000 in
set_option maxRecDepth 100000 in
theorem times_true (r : Nat) (s : Rx.Bytes) (fold : Bool) (w : World) (hr : Rd w r s true fold) :
    Calls Tryz.prog 268 #[.pointer (some ⟨r, 0, none⟩)] w fun e w' => TimesPost r s true fold e w' ∧ Kept (· = r) w w' := by
  have HP : Hid (∀ x, Rx.times true s = x → ∀ e w', (match x with
    | none => e = .panicked [{ v := brokenV, recovered := false }]
    | some (x, s') => e = .returned (timesVal x) ∧ RdAt w' r s' true fold) → TimesPost r s true fold e w') := by
    rintro x rfl e w' h; exact h
  generalize TimesPost r s true fold = POST at HP ⊢
  have G : Go1 w w r s true fold := ⟨hr, Kept.refl _ _⟩
  have c1 := G.ext
  clear hr
  go_enter Tryz.func268, Tryz.ntmps268
  cases h42 : Rx.take [42] s with
  | some u =>
    have hc := G.take [42] _ h42
    go_wp2_with fail
    refine hc.mono ?_
    rintro e wy ⟨rfl, G1⟩
    clear hc
    have HX : Hid (Rx.times true s = some (some (0, -1), u)) := by show _ = _; simp [Rx.times, h42]
    clear h42
    go_wp2_with fail
    go_ret3
    exact ⟨HP.out _ HX.out _ _ ⟨rfl, G1.rd.at_⟩, G1.kept⟩
  | none =>
    have hc := G.take [42] _ h42
    go_wp2_with fail
    refine hc.mono ?_
    rintro e wy ⟨rfl, G1⟩
    clear hc
    have c1 := G1.ext
    cases h43 : Rx.take [43] s with
    | some u =>
      have hc := G1.take [43] _ h43
      go_wp2_with fail
      refine hc.mono ?_
      rintro e wy ⟨rfl, G2⟩
      clear hc
      have HX : Hid (Rx.times true s = some (some (1, -1), u)) := by show _ = _; simp [Rx.times, h42, h43]
      clear h42 h43
      go_wp2_with fail
      go_ret3
      exact ⟨HP.out _ HX.out _ _ ⟨rfl, G2.rd.at_⟩, G2.kept⟩
    | none =>
      have hc := G1.take [43] _ h43
      go_wp2_with fail
      refine hc.mono ?_
      rintro e wy ⟨rfl, G2⟩
      clear hc
      have c1 := G2.ext
      cases h63 : Rx.take [63] s with
      | some u =>
        have hc := G2.take [63] _ h63
        go_wp2_with fail
        refine hc.mono ?_
        rintro e wy ⟨rfl, G3⟩
        clear hc
        have HX : Hid (Rx.times true s = some (some (0, 1), u)) := by show _ = _; simp [Rx.times, h42, h43, h63]
        clear h42 h43 h63
        go_wp2_with fail
        go_ret3
        exact ⟨HP.out _ HX.out _ _ ⟨rfl, G3.rd.at_⟩, G3.kept⟩
      | none =>
        have hc := G2.take [63] _ h63
        go_wp2_with fail
        refine hc.mono ?_
        rintro e wy ⟨rfl, G3⟩
        clear hc
        cases ho : Rx.take [123] s with
        | some u =>
          have hc := G3.take [123] _ ho
          go_wp2_with fail
          refine hc.mono ?_
          rintro e wy ⟨rfl, G4⟩
          clear hc
          simp only [Option.getD_some] at G4
          cases hn : Rx.number u with
          | none =>
            have hc := G4.number _ hn
            go_wp2_with fail
            refine hc.mono ?_
            rintro e wy ⟨rfl, hk⟩
            have HX : Hid (Rx.times true s = none) := by show _ = _; simp [Rx.times, h42, h43, h63, ho, hn]
            clear h42 h43 h63 ho hn
            go_wp2_with fail
            exact ⟨rfl, HP.out _ HX.out _ _ rfl, hk⟩
          | some y =>
            obtain ⟨m, u1⟩ := y
            have hc := G4.number _ hn
            go_wp2_with fail
            refine hc.mono ?_
            rintro e wy ⟨rfl, G5⟩
            clear hc
            cases hco : Rx.take [44] u1 with
            | none =>
              have hc := G5.take [44] _ hco
              go_wp2_with fail
              refine hc.mono ?_
              rintro e wy ⟨rfl, G6⟩
              clear hc
              simp only [Option.getD_none] at G6
              cases hsh : Rx.take [125] u1 with
              | none =>
                have hc := G6.must [125] _ hsh
                have HX : Hid (Rx.times true s = none) := by show _ = _; simp [Rx.times, h42, h43, h63, ho, hn, hco, hsh]
                go_wp2_with fail
                refine hc.mono ?_
                rintro e wz ⟨rfl, hk⟩
                clear hc h42 h43 h63 ho hn hco hsh
                go_wp2_with fail
                exact ⟨rfl, HP.out _ HX.out _ _ rfl, hk⟩
              | some v =>
                have hc := G6.must [125] _ hsh
                have HX : Hid (Rx.times true s = some (some (m, (m : Int)), v)) := by show _ = _; simp [Rx.times, h42, h43, h63, ho, hn, hco, hsh]
                go_wp2_with fail
                refine hc.mono ?_
                rintro e wz ⟨rfl, G9⟩
                clear hc h42 h43 h63 ho hn hco hsh
                go_wp2_with fail
                go_ret3
                exact ⟨HP.out _ HX.out _ _ ⟨rfl, G9.rd.at_⟩, G9.kept⟩
            | some u2 =>
              have hc := G5.take [44] _ hco
              go_wp2_with fail
              refine hc.mono ?_
              rintro e wy ⟨rfl, G6⟩
              clear hc
              simp only [Option.getD_some] at G6
              have c0 := G6.cell
              have hp := hasPrefix_any u2 [125]
              cases hq : ([125] : Rx.Bytes).isPrefixOf u2 with
              | true =>
                rw [hq] at hp
                go_wp2_with fail
                refine (hp _).mono ?_
                rintro e wy ⟨rfl, rfl⟩
                clear hp c0
                cases hsh : Rx.take [125] u2 with
                | none =>
                  have hc := G6.must [125] _ hsh
                  have HX : Hid (Rx.times true s = none) := by show _ = _; simp [Rx.times, h42, h43, h63, ho, hn, hco, hq, hsh]
                  go_wp2_with fail
                  refine hc.mono ?_
                  rintro e wz ⟨rfl, hk⟩
                  clear hc h42 h43 h63 ho hn hco hq hsh
                  go_wp2_with fail
                  exact ⟨rfl, HP.out _ HX.out _ _ rfl, hk⟩
                | some v =>
                  have hc := G6.must [125] _ hsh
                  have HX : Hid (Rx.times true s = some (some (m, (-1)), v)) := by show _ = _; simp [Rx.times, h42, h43, h63, ho, hn, hco, hq, hsh]
                  go_wp2_with fail
                  refine hc.mono ?_
                  rintro e wz ⟨rfl, G9⟩
                  clear hc h42 h43 h63 ho hn hco hq hsh
                  go_wp2_with fail
                  go_ret3
                  exact ⟨HP.out _ HX.out _ _ ⟨rfl, G9.rd.at_⟩, G9.kept⟩
              | false =>
                rw [hq] at hp
                go_wp2_with fail
                refine (hp _).mono ?_
                rintro e wy ⟨rfl, rfl⟩
                clear hp c0
                cases hn2 : Rx.number u2 with
                | none =>
                  have hc := G6.number _ hn2
                  go_wp2_with fail
                  refine hc.mono ?_
                  rintro e wy ⟨rfl, hk⟩
                  have HX : Hid (Rx.times true s = none) := by show _ = _; simp [Rx.times, h42, h43, h63, ho, hn, hco, hq, hn2]
                  clear h42 h43 h63 ho hn hco hq hn2
                  go_wp2_with fail
                  exact ⟨rfl, HP.out _ HX.out _ _ rfl, hk⟩
                | some y =>
                  obtain ⟨n, u3⟩ := y
                  have hc := G6.number _ hn2
                  go_wp2_with fail
                  refine hc.mono ?_
                  rintro e wy ⟨rfl, G7⟩
                  clear hc
                  by_cases hlt : n < m
                  · have HX : Hid (Rx.times true s = none) := by show _ = _; simp [Rx.times, h42, h43, h63, ho, hn, hco, hq, hn2, hlt]
                    have hlt2 : (n : Int) < m := by omega
                    clear h42 h43 h63 ho hn hco hq hn2 hlt
                    go_wp2_with fail
                    refine (fail_any _).mono ?_
                    rintro e wz ⟨rfl, rfl⟩
                    go_wp2_with fail
                    exact ⟨rfl, HP.out _ HX.out _ _ rfl, G7.kept⟩
                  · have hlt2 : ¬ (n : Int) < m := by omega
                    cases hsh : Rx.take [125] u3 with
                    | none =>
                      have hc := G7.must [125] _ hsh
                      have HX : Hid (Rx.times true s = none) := by show _ = _; simp [Rx.times, h42, h43, h63, ho, hn, hco, hq, hn2, hlt, hsh]
                      go_wp2_with fail
                      refine hc.mono ?_
                      rintro e wz ⟨rfl, hk⟩
                      clear hc h42 h43 h63 ho hn hco hq hn2 hlt hsh
                      go_wp2_with fail
                      exact ⟨rfl, HP.out _ HX.out _ _ rfl, hk⟩
                    | some v =>
                      have hc := G7.must [125] _ hsh
                      have HX : Hid (Rx.times true s = some (some (m, (n : Int)), v)) := by show _ = _; simp [Rx.times, h42, h43, h63, ho, hn, hco, hq, hn2, hlt, hsh]
                      go_wp2_with fail
                      refine hc.mono ?_
                      rintro e wz ⟨rfl, G9⟩
                      clear hc h42 h43 h63 ho hn hco hq hn2 hlt hsh
                      go_wp2_with fail
                      go_ret3
                      exact ⟨HP.out _ HX.out _ _ ⟨rfl, G9.rd.at_⟩, G9.kept⟩
        | none =>
          have hc := G3.take [123] _ ho
          go_wp2_with fail
          refine hc.mono ?_
          rintro e wy ⟨rfl, G4⟩
          clear hc
          have HX : Hid (Rx.times true s = some (none, s)) := by show _ = _; simp [Rx.times, h42, h43, h63, ho]
          clear h42 h43 h63 ho
          go_wp2_with fail
          go_ret3
          exact ⟨HP.out _ HX.out _ _ ⟨rfl, G4.rd.at_⟩, G4.kept⟩

set_option maxHeartbeats 1600000 in
set_option maxRecDepth 100000 in
theorem times_false (r : Nat) (s : Rx.Bytes) (fold : Bool) (w : World) (hr : Rd w r s false fold) :
    Calls Tryz.prog 268 #[.pointer (some ⟨r, 0, none⟩)] w fun e w' => TimesPost r s false fold e w' ∧ Kept (· = r) w w' := by
  have HP : Hid (∀ x, Rx.times false s = x → ∀ e w', (match x with
    | none => e = .panicked [{ v := brokenV, recovered := false }]
    | some (x, s') => e = .returned (timesVal x) ∧ RdAt w' r s' false fold) → TimesPost r s false fold e w') := by
    rintro x rfl e w' h; exact h
  generalize TimesPost r s false fold = POST at HP ⊢
  have G : Go1 w w r s false fold := ⟨hr, Kept.refl _ _⟩
  have c1 := G.ext
  clear hr
  go_enter Tryz.func268, Tryz.ntmps268
  cases h42 : Rx.take [42] s with
  | some u =>
    have hc := G.take [42] _ h42
    go_wp2_with fail
    refine hc.mono ?_
    rintro e wy ⟨rfl, G1⟩
    clear hc
    have HX : Hid (Rx.times false s = some (some (0, -1), u)) := by show _ = _; simp [Rx.times, h42]
    clear h42
    go_wp2_with fail
    go_ret3
    exact ⟨HP.out _ HX.out _ _ ⟨rfl, G1.rd.at_⟩, G1.kept⟩
  | none =>
    have hc := G.take [42] _ h42
    go_wp2_with fail
    refine hc.mono ?_
    rintro e wy ⟨rfl, G1⟩
    clear hc
    have c1 := G1.ext
    cases ho : Rx.take [92, 123] s with
    | some u =>
      have hc := G1.take [92, 123] _ ho
      go_wp2_with fail
      refine hc.mono ?_
      rintro e wy ⟨rfl, G4⟩
      clear hc
      simp only [Option.getD_some] at G4
      cases hn : Rx.number u with
      | none =>
        have hc := G4.number _ hn
        go_wp2_with fail
        refine hc.mono ?_
        rintro e wy ⟨rfl, hk⟩
        have HX : Hid (Rx.times false s = none) := by show _ = _; simp [Rx.times, h42, ho, hn]
        clear h42 ho hn
        go_wp2_with fail
        exact ⟨rfl, HP.out _ HX.out _ _ rfl, hk⟩
      | some y =>
        obtain ⟨m, u1⟩ := y
        have hc := G4.number _ hn
        go_wp2_with fail
        refine hc.mono ?_
        rintro e wy ⟨rfl, G5⟩
        clear hc
        cases hco : Rx.take [44] u1 with
        | none =>
          have hc := G5.take [44] _ hco
          go_wp2_with fail
          refine hc.mono ?_
          rintro e wy ⟨rfl, G6⟩
          clear hc
          simp only [Option.getD_none] at G6
          cases hsh : Rx.take [92, 125] u1 with
          | none =>
            have hc := G6.must [92, 125] _ hsh
            have HX : Hid (Rx.times false s = none) := by show _ = _; simp [Rx.times, h42, ho, hn, hco, hsh]
            go_wp2_with fail
            refine hc.mono ?_
            rintro e wz ⟨rfl, hk⟩
            clear hc h42 ho hn hco hsh
            go_wp2_with fail
            exact ⟨rfl, HP.out _ HX.out _ _ rfl, hk⟩
          | some v =>
            have hc := G6.must [92, 125] _ hsh
            have HX : Hid (Rx.times false s = some (some (m, (m : Int)), v)) := by show _ = _; simp [Rx.times, h42, ho, hn, hco, hsh]
            go_wp2_with fail
            refine hc.mono ?_
            rintro e wz ⟨rfl, G9⟩
            clear hc h42 ho hn hco hsh
            go_wp2_with fail
            go_ret3
            exact ⟨HP.out _ HX.out _ _ ⟨rfl, G9.rd.at_⟩, G9.kept⟩
        | some u2 =>
          have hc := G5.take [44] _ hco
          go_wp2_with fail
          refine hc.mono ?_
          rintro e wy ⟨rfl, G6⟩
          clear hc
          simp only [Option.getD_some] at G6
          have c0 := G6.cell
          have hp := hasPrefix_any u2 [92, 125]
          cases hq : ([92, 125] : Rx.Bytes).isPrefixOf u2 with
          | true =>
            rw [hq] at hp
            go_wp2_with fail
            refine (hp _).mono ?_
            rintro e wy ⟨rfl, rfl⟩
            clear hp c0
            cases hsh : Rx.take [92, 125] u2 with
            | none =>
              have hc := G6.must [92, 125] _ hsh
              have HX : Hid (Rx.times false s = none) := by show _ = _; simp [Rx.times, h42, ho, hn, hco, hq, hsh]
              go_wp2_with fail
              refine hc.mono ?_
              rintro e wz ⟨rfl, hk⟩
              clear hc h42 ho hn hco hq hsh
              go_wp2_with fail
              exact ⟨rfl, HP.out _ HX.out _ _ rfl, hk⟩
            | some v =>
              have hc := G6.must [92, 125] _ hsh
              have HX : Hid (Rx.times false s = some (some (m, (-1)), v)) := by show _ = _; simp [Rx.times, h42, ho, hn, hco, hq, hsh]
              go_wp2_with fail
              refine hc.mono ?_
              rintro e wz ⟨rfl, G9⟩
              clear hc h42 ho hn hco hq hsh
              go_wp2_with fail
              go_ret3
              exact ⟨HP.out _ HX.out _ _ ⟨rfl, G9.rd.at_⟩, G9.kept⟩
          | false =>
            rw [hq] at hp
            go_wp2_with fail
            refine (hp _).mono ?_
            rintro e wy ⟨rfl, rfl⟩
            clear hp c0
            cases hn2 : Rx.number u2 with
            | none =>
              have hc := G6.number _ hn2
              go_wp2_with fail
              refine hc.mono ?_
              rintro e wy ⟨rfl, hk⟩
              have HX : Hid (Rx.times false s = none) := by show _ = _; simp [Rx.times, h42, ho, hn, hco, hq, hn2]
              clear h42 ho hn hco hq hn2
              go_wp2_with fail
              exact ⟨rfl, HP.out _ HX.out _ _ rfl, hk⟩
            | some y =>
              obtain ⟨n, u3⟩ := y
              have hc := G6.number _ hn2
              go_wp2_with fail
              refine hc.mono ?_
              rintro e wy ⟨rfl, G7⟩
              clear hc
              by_cases hlt : n < m
              · have HX : Hid (Rx.times false s = none) := by show _ = _; simp [Rx.times, h42, ho, hn, hco, hq, hn2, hlt]
                have hlt2 : (n : Int) < m := by omega
                clear h42 ho hn hco hq hn2 hlt
                go_wp2_with fail
                refine (fail_any _).mono ?_
                rintro e wz ⟨rfl, rfl⟩
                go_wp2_with fail
                exact ⟨rfl, HP.out _ HX.out _ _ rfl, G7.kept⟩
              · have hlt2 : ¬ (n : Int) < m := by omega
                cases hsh : Rx.take [92, 125] u3 with
                | none =>
                  have hc := G7.must [92, 125] _ hsh
                  have HX : Hid (Rx.times false s = none) := by show _ = _; simp [Rx.times, h42, ho, hn, hco, hq, hn2, hlt, hsh]
                  go_wp2_with fail
                  refine hc.mono ?_
                  rintro e wz ⟨rfl, hk⟩
                  clear hc h42 ho hn hco hq hn2 hlt hsh
                  go_wp2_with fail
                  exact ⟨rfl, HP.out _ HX.out _ _ rfl, hk⟩
                | some v =>
                  have hc := G7.must [92, 125] _ hsh
                  have HX : Hid (Rx.times false s = some (some (m, (n : Int)), v)) := by show _ = _; simp [Rx.times, h42, ho, hn, hco, hq, hn2, hlt, hsh]
                  go_wp2_with fail
                  refine hc.mono ?_
                  rintro e wz ⟨rfl, G9⟩
                  clear hc h42 ho hn hco hq hn2 hlt hsh
                  go_wp2_with fail
                  go_ret3
                  exact ⟨HP.out _ HX.out _ _ ⟨rfl, G9.rd.at_⟩, G9.kept⟩
    | none =>
      have hc := G1.take [92, 123] _ ho
      go_wp2_with fail
      refine hc.mono ?_
      rintro e wy ⟨rfl, G4⟩
      clear hc
      have HX : Hid (Rx.times false s = some (none, s)) := by show _ = _; simp [Rx.times, h42, ho]
      clear h42 ho
      go_wp2_with fail
      go_ret3
      exact ⟨HP.out _ HX.out _ _ ⟨rfl, G4.rd.at_⟩, G4.kept⟩

theorem times_any (r : Nat) (s : Rx.Bytes) (ext fold : Bool) (w : World) (hr : Rd w r s ext fold) :
    Calls Tryz.prog 268 #[.pointer (some ⟨r, 0, none⟩)] w fun e w' => TimesPost r s ext fold e w' ∧ Kept (· = r) w w' := by
  cases ext with
  | true => exact times_true r s fold w hr
  | false => exact times_false r s fold w hr

end Go.Proofs.YtfgmmaahbngonaaGreatDoor.Rg

/-
  The walks of piece, escaped, join. Condition: what is told lies in memory.
-/
namespace Go.Proofs.YtfgmmaahbngonaaGreatDoor.Rg
open Go.RowKit Go.Shelf Go.Maps

theorem Go1.times {w wx : World} {r : Nat} {s : Rx.Bytes} {ext fold : Bool} (G : Go1 w wx r s ext fold) (x : Option (Option (Nat × Int) × Rx.Bytes)) (hx : Rx.times ext s = x) (hl : ∀ y s', x = some (y, s') → s'.length ≤ s.length) :
    Calls Tryz.prog 268 #[.pointer (some ⟨r, 0, none⟩)] wx fun e w' => match x with
      | none => e = .panicked [{ v := brokenV, recovered := false }] ∧ Kept (· = r) w w'
      | some (y, s') => e = .returned (timesVal y) ∧ Go1 w w' r s' ext fold := by
  refine (times_any r s ext fold wx G.rd).mono ?_
  rintro e w' ⟨h1, hk⟩
  unfold TimesPost at h1
  rw [hx] at h1
  cases x with
  | none => exact ⟨h1, G.kept.trans hk⟩
  | some y => obtain ⟨n, s'⟩ := y; exact ⟨h1.1, G.go h1.2 hk (hl n s' rfl)⟩

theorem times_len {ext : Bool} {s s' : Rx.Bytes} {y : Option (Nat × Int)} (h : Rx.times ext s = some (y, s')) : s'.length ≤ s.length := by
  unfold Rx.times at h
  simp only [] at h
  split at h
  · rename_i r hr; cases h; exact take_len hr
  · split at h
    · rename_i r hr
      cases h
      split at hr
      · exact take_len hr
      · cases hr
    · split at h
      · rename_i r hr
        cases h
        split at hr
        · exact take_len hr
        · cases hr
      · split at h
        · cases h; exact Nat.le_refl _
        · rename_i r hr
          have h0 := take_len hr
          split at h
          · cases h
          · rename_i m r1 hn
            have h1 := number_len hn
            split at h
            · rw [Option.map_eq_some_iff] at h
              obtain ⟨r2, h2, h3⟩ := h
              cases h3
              have := take_len h2; omega
            · rename_i r2 h2
              have h2 := take_len h2
              by_cases hp : (if ext then ([125] : Rx.Bytes) else [92, 125]).isPrefixOf r2 = true
              · rw [if_pos hp, Option.map_eq_some_iff] at h
                obtain ⟨r3, h3, h4⟩ := h
                cases h4
                have := take_len h3; omega
              · rw [if_neg hp] at h
                split at h
                · cases h
                · rename_i n r3 hn2
                  have := number_len hn2
                  split at h
                  · cases h
                  · rw [Option.map_eq_some_iff] at h
                    obtain ⟨r4, h4, h5⟩ := h
                    cases h5
                    have := take_len h4; omega

theorem number_le {s s' : Rx.Bytes} {n : Nat} (h : Rx.number s = some (n, s')) : n ≤ 255 := by
  unfold Rx.number at h
  simp only [] at h
  split at h
  · rename_i hc
    cases h
    simp only [Bool.and_eq_true, decide_eq_true_eq] at hc
    exact hc.2
  · cases h

/-- A repetition's numbers. -/
theorem times_ok {ext : Bool} {s s' : Rx.Bytes} {m : Nat} {most : Int} (h : Rx.times ext s = some (some (m, most), s')) : m ≤ 255 ∧ -1 ≤ most ∧ most ≤ 255 := by
  unfold Rx.times at h
  simp only [] at h
  split at h
  · cases h; decide
  · split at h
    · cases h; decide
    · split at h
      · cases h; decide
      · split at h
        · cases h
        · split at h
          · cases h
          · rename_i m r1 hn
            have h1 := number_le hn
            split at h
            · rw [Option.map_eq_some_iff] at h
              obtain ⟨r2, h2, h3⟩ := h
              cases h3
              omega
            · rename_i r2 h2
              by_cases hp : (if ext then ([125] : Rx.Bytes) else [92, 125]).isPrefixOf r2 = true
              · rw [if_pos hp, Option.map_eq_some_iff] at h
                obtain ⟨r3, h3, h4⟩ := h
                cases h4
                omega
              · rw [if_neg hp] at h
                split at h
                · cases h
                · rename_i n r3 hn2
                  have := number_le hn2
                  split at h
                  · cases h
                  · rw [Option.map_eq_some_iff] at h
                    obtain ⟨r4, h4, h5⟩ := h
                    cases h5
                    omega

theorem nd_new4 (a b c d : Value) : (((Tryz.zeroCells351.setIfInBounds 0 a).setIfInBounds 257 b).setIfInBounds 258 c).setIfInBounds 259 d = (a :: hasCells noHas ++ [b, c, d]).toArray := by
  kernel_rfl
theorem nd_new2 (kind : Int) (d : Value) : (Tryz.zeroCells351.setIfInBounds 0 (.int .i64 kind)).setIfInBounds 259 d = ndCells kind noHas 0 0 d := by
  kernel_rfl

set_option maxHeartbeats 1600000 in
set_option maxRecDepth 100000 in
theorem piece_any (r p B : Nat) (n : Rx.Nd) (anchor : Bool) (s : Rx.Bytes) (ext fold : Bool) (w : World) (hr : Rd w r s ext fold) (hn : NdAt w B p n) (hrB : r < B) (hBw : B ≤ w.heap.size) :
    Calls Tryz.prog 247 #[.pointer (some ⟨r, 0, none⟩), .pointer (some ⟨p, 0, none⟩), .bool anchor] w fun e w' => NodePost B r ext fold (Rx.piece ext n anchor s) e w' ∧ Kept (· = r) w w' := by
  have HP : Hid (∀ x, Rx.piece ext n anchor s = x → ∀ e w', NodePost B r ext fold x e w' → NodePost B r ext fold (Rx.piece ext n anchor s) e w') := by
    rintro x rfl e w' h; exact h
  generalize hpost : NodePost B r ext fold (Rx.piece ext n anchor s) = POST at HP ⊢
  clear hpost
  have G : Go1 w w r s ext fold := ⟨hr, Kept.refl _ _⟩
  have HN : Hid (∀ w', Kept (· = r) w w' → NdAt w' B p n) := fun w' hk => hn.kept hk (fun k hk e => by omega)
  clear hr hn
  go_enter Tryz.func247, Tryz.ntmps247
  rcases ht : Rx.times ext s with _ | ⟨_ | ⟨m, most⟩, s1⟩
  · have hc := G.times _ ht (fun y s' h => by cases h)
    have HX : Hid (Rx.piece ext n anchor s = none) := by show _ = _; unfold Rx.piece; rw [ht]
    go_wp2_with fail
    refine hc.mono ?_
    rintro e w' ⟨rfl, hk⟩
    clear hc ht
    go_wp2_with fail
    exact ⟨rfl, HP.out _ HX.out _ _ rfl, hk⟩
  · have hc := G.times _ ht (fun y s' h => by cases h; exact times_len ht)
    have HX : Hid (Rx.piece ext n anchor s = some (n, s1)) := by show _ = _; unfold Rx.piece; rw [ht]
    unfold timesVal at hc
    go_wp2_with fail
    refine hc.mono ?_
    rintro e w' ⟨rfl, G1⟩
    clear hc ht
    go_wp2_with fail
    go_ret
    exact ⟨HP.out _ HX.out _ _ ⟨p, rfl, G1.rd.at_, HN.out _ G1.kept⟩, G1.kept⟩
  · have hc := G.times _ ht (fun y s' h => by cases h; exact times_len ht)
    have HX : Hid (Rx.piece ext n anchor s = match Rx.times ext s1 with
      | some (none, s2) => if anchor then none else some (.rep m most n, s2)
      | _ => none) := by show _ = _; unfold Rx.piece; rw [ht]; rfl
    have HMM := Lib.hid (times_ok ht)
    unfold timesVal at hc
    go_wp2_with fail
    refine hc.mono ?_
    rintro e w' ⟨rfl, G1⟩
    clear hc ht
    rcases ht : Rx.times ext s1 with _ | ⟨_ | ⟨m2, most2⟩, s2⟩
    · have hc := G1.times _ ht (fun y s' h => by cases h)
      rw [ht] at HX
      go_wp2_with fail
      refine hc.mono ?_
      rintro e w' ⟨rfl, hk⟩
      clear hc ht
      go_wp2_with fail
      exact ⟨rfl, HP.out _ HX.out _ _ rfl, hk⟩
    · have hc := G1.times _ ht (fun y s' h => by cases h; exact times_len ht)
      rw [ht] at HX
      unfold timesVal at hc
      cases anchor with
      | true =>
        go_wp2_with fail
        refine hc.mono ?_
        rintro e w' ⟨rfl, G2⟩
        clear hc ht
        go_wp2_with fail
        refine (fail_any _).mono ?_
        rintro e w3 ⟨rfl, rfl⟩
        go_wp2_with fail
        exact ⟨rfl, HP.out _ HX.out _ _ rfl, G2.kept⟩
      | false =>
        go_wp2_with fail
        refine hc.mono ?_
        rintro e w' ⟨rfl, G2⟩
        clear hc ht
        go_wp2_with fail
        rw [nd_new4]
        have hq := Blk.new w' #[.pointer (some ⟨p, 0, none⟩)] 314
        have hbl : Below w'.heap.size w' (w'.alloc (.cells #[.pointer (some ⟨p, 0, none⟩)] 314)) := (Below.refl _ _).alloc (Nat.le_refl _) _
        have hsz : (w'.alloc (.cells #[.pointer (some ⟨p, 0, none⟩)] 314)).heap.size = w'.heap.size + 1 := by simp
        have hw' := G2.kept.size
        generalize w'.alloc (.cells #[.pointer (some ⟨p, 0, none⟩)] 314) = w2 at *
        rw [← hsz]
        have hb := Blk.new w2 (ndCells 6 noHas m most (.slice (some ⟨w'.heap.size, 0, none⟩) 1 1)) 351
        have hk2 : Kept (fun _ => False) w' (w2.alloc (.cells (ndCells 6 noHas m most (.slice (some ⟨w'.heap.size, 0, none⟩) 1 1)) 351)) := (Kept.of_below hbl).alloc _
        have hq2 := hq.alloc (.cells (ndCells 6 noHas m most (.slice (some ⟨w'.heap.size, 0, none⟩) 1 1)) 351)
        go_ret
        have hK : Kept (· = r) w _ := G2.kept.trans (hk2.mono fun _ _ h => h.elim)
        refine ⟨HP.out _ HX.out _ _ ⟨w2.heap.size, rfl, G2.rd.at_.kept hk2 id, ?_⟩, hK⟩
        refine .rep (by omega) hb (by omega) (q := p) ?_ (HN.out _ hK) HMM.out
        intro i hi
        obtain rfl : i = 0 := by simp at hi; exact hi
        exact hq2.cell 0 rfl
    · have hc := G1.times _ ht (fun y s' h => by cases h; exact times_len ht)
      rw [ht] at HX
      unfold timesVal at hc
      go_wp2_with fail
      refine hc.mono ?_
      rintro e w' ⟨rfl, G2⟩
      clear hc ht
      go_wp2_with fail
      refine (fail_any _).mono ?_
      rintro e w3 ⟨rfl, rfl⟩
      go_wp2_with fail
      exact ⟨rfl, HP.out _ HX.out _ _ rfl, G2.kept⟩

end Go.Proofs.YtfgmmaahbngonaaGreatDoor.Rg
