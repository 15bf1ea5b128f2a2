/-
  Walks of what reads numbers and keys. Conditions: the strings are no longer than memory allows.
-/
import Derived.Test.YtnhopkjichgckaaDoorW1
namespace Go.Proofs.YtnhopkjichgckaaDoor
open Go.RowKit Go.Shelf

theorem trimLeft_any (l cs : Ord.Bytes) (q : UInt8 → Bool) (hq : ∀ c, List.contains cs c = q c) (hcs : cs.all (fun b => decide (b.toNat < 128)) = true) (hl : cs.length < 4294967281) (w : World) :
    Calls Tryd.prog 38 #[.string ⟨l.toArray⟩, .string ⟨cs.toArray⟩] w fun e w' => e = .returned (.string ⟨(l.dropWhile q).toArray⟩) ∧ Below w.heap.size w w' := by
  have h : Calls Tryd.prog 38 _ w _ := Any.strings_TrimLeft_laid Tryd.lays161 (by kernel_rfl) ⟨l.toArray⟩ ⟨cs.toArray⟩ w (by simpa [ByteArray.size] using hl) (ascii_of_all hcs)
  obtain rfl : (cs.contains ·) = q := funext hq
  exact h

theorem digit_contains (c : UInt8) : List.contains [48, 49, 50, 51, 52, 53, 54, 55, 56, 57] c = Ord.digit c := by
  rw [Bool.eq_iff_iff]
  simp [Ord.digit, u8_eq, u8_le]
  omega
theorem blank_contains (c : UInt8) : List.contains [32, 9] c = Ord.blank c := by
  rw [Bool.eq_iff_iff]; simp [Ord.blank]
theorem nought_contains (c : UInt8) : List.contains [48] c = (c == 48) := by
  rw [Bool.eq_iff_iff]; simp

theorem take_sub_drop (l : Ord.Bytes) (p : UInt8 → Bool) : l.take (l.length - (l.dropWhile p).length) = l.takeWhile p := by
  have h : l.takeWhile p ++ l.dropWhile p = l := List.takeWhile_append_dropWhile
  have hl : (l.takeWhile p).length + (l.dropWhile p).length = List.length l := by rw [← List.length_append, h]
  have e : l.take (l.length - (l.dropWhile p).length) = (l.takeWhile p ++ l.dropWhile p).take (l.takeWhile p).length := by rw [h]; congr 1; omega
  rw [e, List.take_left]

theorem digits_any (l : Ord.Bytes) (hl : l.length ≤ 140737488351232) (w : World) :
    Calls Tryd.prog 28 #[.string ⟨l.toArray⟩] w fun e w' => e = .returned (.tuple #[.string ⟨(l.takeWhile Ord.digit).toArray⟩, .string ⟨(l.dropWhile Ord.digit).toArray⟩]) ∧ Below w.heap.size w w' := by
  have hd : (l.dropWhile Ord.digit).length ≤ l.length := (List.dropWhile_sublist _).length_le
  have HT := Lib.hid (take_sub_drop l Ord.digit)
  go_enter Tryd.func28, Tryd.ntmps28
  go_wp2_with (go_at_call 38; refine (trimLeft_any l [48, 49, 50, 51, 52, 53, 54, 55, 56, 57] Ord.digit digit_contains (by decide) (by decide) _).mono ?_; rintro e w1 ⟨rfl, hb1⟩)
  go_ret2
  refine ⟨?_, hb1⟩
  simp only [extract_take]
  rw [HT.out]; rfl

theorem idxByte_cut (l : Ord.Bytes) : (Lib.indexByte l 44 = -1 ∧ Ord.cutComma l = (l, none)) ∨
    ∃ i : Nat, Lib.indexByte l 44 = i ∧ i < l.length ∧ Ord.cutComma l = (l.take i, some (l.drop (i + 1))) := by
  induction l with
  | nil => left; exact ⟨rfl, rfl⟩
  | cons c r ih =>
    by_cases hc : c = 44
    · right; refine ⟨0, ?_, by simp, ?_⟩
      · simp [Lib.indexByte, hc]
      · simp [Ord.cutComma, hc]
    · rcases ih with ⟨h1, h2⟩ | ⟨i, h1, h2, h3⟩
      · left; simp [Lib.indexByte, hc, h1, Ord.cutComma, h2]
      · right; refine ⟨i + 1, ?_, by simp; omega, ?_⟩
        · have e : ¬ ((i : Int) = -1) := by omega
          simp [Lib.indexByte, hc, h1, e]
        · simp [Ord.cutComma, hc, h3]

/-- What strings.Cut by a comma hands back. -/
def cutVal (l : Ord.Bytes) : Value :=
  .tuple #[.string ⟨(Ord.cutComma l).1.toArray⟩, .string ⟨((Ord.cutComma l).2.getD []).toArray⟩, .bool (Ord.cutComma l).2.isSome]

theorem cut_lite (l : Ord.Bytes) (hl : l.length ≤ 140737488351232) (w : World) :
    Calls Tryd.prog 27 #[.string ⟨l.toArray⟩, .string ⟨#[44]⟩] w fun e w' => e = .returned (cutVal l) ∧ ∃ n, w' = w.drewN n := by
  have hidx : ∀ w : World, Calls Tryd.prog 37 #[.string ⟨l.toArray⟩, .string ⟨#[44]⟩] w fun e w' => e = .returned (.int .i64 (Lib.indexByte l 44)) ∧ w' = w := fun w => Any.stringslite_Index_one Tryd.lays219 ⟨l.toArray⟩ 44 w
  rcases idxByte_cut l with ⟨h1, h2⟩ | ⟨i, h1, h2, h3⟩
  · rw [h1] at hidx
    have H2 := Lib.hid h2; clear h1 h2
    go_enter Tryd.func27, Tryd.ntmps27
    go_wp2_with (go_at_call 37; refine (hidx _).mono ?_; rintro e w1 ⟨rfl, rfl⟩)
    go_ret3
    exact ⟨by unfold cutVal; rw [H2.out]; rfl, 0, rfl⟩
  · rw [h1] at hidx
    have H3 := Lib.hid h3; clear h1 h3
    have hle : (i : Int) + 1 ≤ 9223372036854775807 := by omega
    go_enter Tryd.func27, Tryd.ntmps27
    go_wp2_with (go_at_call 37; refine (hidx _).mono ?_; rintro e w1 ⟨rfl, rfl⟩)
    go_quiet (fail)
    go_wp2
    go_ret3
    refine ⟨?_, nq, rfl⟩
    unfold cutVal
    rw [H3.out]
    simp only [extract_take, extract_drop]
    rfl

theorem cut_any (l : Ord.Bytes) (hl : l.length ≤ 140737488351232) (w : World) :
    Calls Tryd.prog 20 #[.string ⟨l.toArray⟩, .string ⟨#[44]⟩] w fun e w' => e = .returned (cutVal l) ∧ ∃ n, w' = w.drewN n := by
  go_enter Tryd.func20, Tryd.ntmps20
  go_wp2_with (go_at_call 27; refine (cut_lite l hl _).mono ?_; unfold cutVal; rintro e w1 ⟨rfl, n, rfl⟩)
  go_ret3
  exact ⟨rfl, n, rfl⟩

/-- text.Number's answer. -/
def numVal (l : Ord.Bytes) (most : Int) : Value := match Ord.number l most with
  | none => .tuple #[.int .i64 0, .bool false]
  | some v => .tuple #[.int .i64 v, .bool true]

/-- What the library's variables hold: errors. -/
structure Glo (w : World) : Prop where
  syn : ∃ tp p, w.var? Tryd.prog "strconv.ErrSyntax" = some #[.iface tp p]
  rng : ∃ tp p, w.var? Tryd.prog "strconv.ErrRange" = some #[.iface tp p]

theorem gSyn : Tryd.prog.globalNamed "strconv.ErrSyntax" = some 3 := by kernel_rfl
theorem gRng : Tryd.prog.globalNamed "strconv.ErrRange" = some 4 := by kernel_rfl

theorem Glo.below {B : Nat} {w w' : World} (h : Glo w) (hb : Below B w w') (hB : 8 ≤ B) : Glo w' := by
  obtain ⟨⟨t1, p1, h1⟩, ⟨t2, p2, h2⟩⟩ := h
  exact ⟨⟨t1, p1, var?_below hb gSyn (by omega) h1⟩, ⟨t2, p2, var?_below hb gRng (by omega) h2⟩⟩

theorem parseInt_bad (l : Ord.Bytes) (hl : l.length ≤ 140737488351232) (h : l = [] ∨ (l.all Ord.digit = true ∧ 9223372036854775808 ≤ Ord.value l)) (w : World) (hg : Glo w) :
    Calls Tryd.prog 53 #[.string ⟨l.toArray⟩, .int .i64 10, .int .i64 64] w fun e w' => (∃ n t a, e = .returned (.tuple #[.int .i64 n, .iface t (.pointer (some a))])) ∧ Below w.heap.size w w' := by
  obtain ⟨⟨t1, p1, h1⟩, ⟨t2, p2, h2⟩⟩ := hg
  by_cases h0 : l = []
  · subst h0
    exact (Any.strconv_ParseInt_10_at64_syntax_var Tryd.laysC174 ⟨#[]⟩ (by decide) rfl t1 p1 w h1).mono fun e w' ⟨N, he, _, _, hb⟩ => ⟨⟨_, _, _, he⟩, hb⟩
  · rcases h with h | ⟨ha, hv⟩
    · exact absurd h h0
    · exact (Any.strconv_ParseInt_10_at64_range_var Tryd.laysC174 ⟨l.toArray⟩ (by simp [ByteArray.size]; omega) (by rw [Ord.parseIntB_digits l ha h0, if_neg (by omega)]) t2 p2 w h2).mono fun e w' ⟨N, he, _, _, hb⟩ => ⟨⟨_, _, _, he⟩, hb⟩

theorem parseInt_good (l : Ord.Bytes) (hl : l.length ≤ 140737488351232) (h0 : l ≠ []) (ha : l.all Ord.digit = true) (hv : Ord.value l < 9223372036854775808) (w : World) :
    Calls Tryd.prog 53 #[.string ⟨l.toArray⟩, .int .i64 10, .int .i64 64] w fun e w' => e = .returned (.tuple #[.int .i64 (Ord.value l), .nilIface]) ∧ Below w.heap.size w w' := by
  refine (Any.strconv_ParseInt_10_at64_ok Tryd.laysC174 ⟨l.toArray⟩ (by simp [ByteArray.size]; omega) (Ord.value l) (by rw [Ord.parseIntB_digits l ha h0, if_pos hv]) w).mono fun e w' ⟨he, hw⟩ => ⟨he, ?_⟩
  rcases hw with rfl | ⟨t, rfl⟩
  · exact Below.refl _ _
  · exact Lib.bytesWorld_below _ _ _

/-- Are so many of the first bytes digits? -/
theorem all_take (l : Ord.Bytes) (k : Nat) (hk : k < l.length) : (l.take (k + 1)).all Ord.digit = ((l.take k).all Ord.digit && Ord.digit (l.getD k 0)) := by
  rw [List.take_succ_eq_append_getElem hk, List.all_append]
  simp [List.getD_eq_getElem?_getD, List.getElem?_eq_getElem hk]

theorem all_false_at (l : Ord.Bytes) (k : Nat) (hk : k < l.length) (h : Ord.digit (l.getD k 0) = false) : l.all Ord.digit = false := by
  rw [List.all_eq_false]
  exact ⟨l.getD k 0, by rw [List.getD_eq_getElem?_getD, List.getElem?_eq_getElem hk]; exact List.getElem_mem hk, by rw [h]; decide⟩

theorem numVal_none {l : Ord.Bytes} {most : Int} (h : l = [] ∨ l.all Ord.digit = false ∨ most < Ord.value l) : numVal l most = .tuple #[.int .i64 0, .bool false] := by
  unfold numVal; rw [Ord.number_none_of l most h]
theorem numVal_some {l : Ord.Bytes} {most : Int} (h0 : l ≠ []) (h : l.all Ord.digit = true) (hv : (Ord.value l : Int) ≤ most) : numVal l most = .tuple #[.int .i64 (Ord.value l), .bool true] := by
  unfold numVal; rw [Ord.number_some_of l most h0 h hv]

set_option maxRecDepth 100000 in
theorem based_any (l : Ord.Bytes) (most : Int) (hl : l.length ≤ 140737488351232) (hm0 : 0 ≤ most) (hm : most ≤ 2147483647) (w : World) (hg : Glo w) (hB : 8 ≤ w.heap.size) :
    Calls Tryd.prog 39 #[.string ⟨l.toArray⟩, .int .i64 most, .int .i64 10] w fun e w' => e = .returned (numVal l most) ∧ Below w.heap.size w w' := by
  have hconv := fun w => Lib.run_convert_string_bytes (P := Tryd.prog) w 9 23 5 ⟨l.toArray⟩ Tryd.underlying9 Tryd.underlying23 Tryd.underlying5
  have hsz : (⟨l.toArray⟩ : ByteArray).size = l.length := by simp [ByteArray.size]
  simp only [hsz] at hconv
  have hbel := Lib.bytesWorld_below w 5 ⟨l.toArray⟩
  have hcell : ∀ j, j < l.length → (Lib.bytesWorld w 5 ⟨l.toArray⟩).cell? ⟨w.heap.size, j, none⟩ = some (.int .u8 (l.getD j 0).toNat) := fun j hj => Lib.bytesWorld_cell w 5 ⟨l.toArray⟩ j (by rw [hsz]; exact hj)
  have hsize := Lib.bytesWorld_size w 5 ⟨l.toArray⟩
  go_enter Tryd.func39, Tryd.ntmps39
  go_wp2_with fail
  clear hconv
  generalize Lib.bytesWorld w 5 ⟨l.toArray⟩ = w1 at *
  have hg1 := hg.below hbel hB
  go_loop [15] (fun i => ∃ k : Nat, k ≤ l.length ∧ (l.take k).all Ord.digit = true ∧ i = .int .i64 k) (fun i => l.length - (intOf i).toNat)
  case atStart => exact ⟨0, Nat.zero_le _, rfl, rfl⟩
  case round =>
    obtain ⟨k, hk, hall, rfl⟩ := hrel
    have HA := Lib.hid hall; clear hall
    by_cases hlt : k < l.length
    · have hc := hcell k hlt
      have hbd := u8_bd (l.getD k 0)
      have eg : l[k] = l.getD k 0 := by simp [List.getD_eq_getElem?_getD, List.getElem?_eq_getElem hlt]
      have EG := Lib.hid eg; clear eg
      go_wp2_with fail
      · have h1 : (l[k].toNat : Int) < 48 := by assumption
        rw [EG.out] at h1
        go_ret2
        refine ⟨?_, hbel⟩
        rw [numVal_none (.inr (.inl (all_false_at l k hlt (digit_no (by omega)))))]; rfl
      · have h1 : 10 ≤ ((l[k].toNat : Int) - 48) % 256 := by assumption
        rw [EG.out] at h1
        go_ret2
        refine ⟨?_, hbel⟩
        rw [numVal_none (.inr (.inl (all_false_at l k hlt (digit_no (by omega)))))]; rfl
      · have h1 : ((l[k].toNat : Int) - 48) % 256 < 10 := by assumption
        have h2 : ¬ (l[k].toNat : Int) < 48 := by assumption
        rw [EG.out] at h1 h2
        go_round
        case rel => exact ⟨k + 1, by omega, by rw [all_take l k hlt, HA.out, digit_yes (by omega) (by omega)]; rfl, by go_num⟩
        case measure => simp [intOf]; omega
    · obtain rfl : k = l.length := by omega
      have hall : l.all Ord.digit = true := by simpa using HA.out
      have HA2 := Lib.hid hall; clear hall HA
      by_cases h0 : l = [] ∨ 9223372036854775808 ≤ Ord.value l
      · have HN := Lib.hid (show numVal l most = .tuple #[.int .i64 0, .bool false] from numVal_none (by rcases h0 with h | h; exact .inl h; exact .inr (.inr (by omega))))
        have hbad := fun w => parseInt_bad l hl (h0.imp id fun h => ⟨HA2.out, h⟩) w
        clear h0
        go_wp2_with (go_at_call 53; refine (hbad _ hg1).mono ?_; rintro e w2 ⟨⟨n, t, a, rfl⟩, hb2⟩)
        go_ret2
        exact ⟨by rw [HN.out]; rfl, hbel.trans (hb2.mono (by omega))⟩
      · have hn0 : l ≠ [] := fun h => h0 (.inl h)
        have hv : Ord.value l < 9223372036854775808 := by rcases Nat.lt_or_ge (Ord.value l) 9223372036854775808 with h | h; exact h; exact absurd (.inr h) h0
        have hgood := fun w => parseInt_good l hl hn0 HA2.out hv w
        clear h0
        by_cases hv2 : (Ord.value l : Int) ≤ most
        · have HN := Lib.hid (numVal_some (most := most) hn0 HA2.out hv2)
          clear hn0
          go_wp2_with (go_at_call 53; refine (hgood _).mono ?_; rintro e w2 ⟨rfl, hb2⟩)
          go_ret2
          exact ⟨by rw [HN.out]; rfl, hbel.trans (hb2.mono (by omega))⟩
        · have HN := Lib.hid (show numVal l most = .tuple #[.int .i64 0, .bool false] from numVal_none (.inr (.inr (by omega))))
          clear hn0
          go_wp2_with (go_at_call 53; refine (hgood _).mono ?_; rintro e w2 ⟨rfl, hb2⟩)
          go_ret2
          exact ⟨by rw [HN.out]; rfl, hbel.trans (hb2.mono (by omega))⟩

set_option maxRecDepth 100000 in
theorem number_any (l : Ord.Bytes) (most : Int) (hl : l.length ≤ 140737488351232) (hm0 : 0 ≤ most) (hm : most ≤ 2147483647) (w : World) (hg : Glo w) (hB : 8 ≤ w.heap.size) :
    Calls Tryd.prog 29 #[.string ⟨l.toArray⟩, .int .i64 most] w fun e w' => e = .returned (numVal l most) ∧ Below w.heap.size w w' := by
  have hb := fun w' hg' hB' => based_any l most hl hm0 hm w' hg' hB'
  have hx : ∃ n b, numVal l most = .tuple #[.int .i64 n, .bool b] := by
    unfold numVal; split <;> exact ⟨_, _, rfl⟩
  obtain ⟨n, b, hx⟩ := hx
  rw [hx] at hb ⊢
  clear hx
  go_enter Tryd.func29, Tryd.ntmps29
  go_wp2_with (go_at_call 39; refine (hb _ hg hB).mono ?_; rintro e w1 ⟨rfl, hb1⟩)
  go_ret2
  exact ⟨rfl, hb1⟩

theorem numVal_no {l : Ord.Bytes} {most : Int} (h : Ord.number l most = none) : numVal l most = .tuple #[.int .i64 0, .bool false] := by unfold numVal; rw [h]
theorem numVal_yes {l : Ord.Bytes} {most v : Int} (h : Ord.number l most = some v) : numVal l most = .tuple #[.int .i64 v, .bool true] := by unfold numVal; rw [h]

/-- A place in the answer of read that is thrown away. -/
def readVal (s : Ord.Bytes) (b leastC : Int) (v : Value) : Prop := match Ord.read s b leastC with
  | none => ∃ f c : Int, v = .tuple #[.agg #[.int .i64 f, .int .i64 c], .int .i64 0, .bool false]
  | some (p, fl) => v = .tuple #[.agg #[.int .i64 p.f, .int .i64 p.c], .int .i64 fl, .bool true]

/-- A text, and what stands behind a byte that it may begin with. -/
def CutP (l : Ord.Bytes) (c : UInt8) (t : Ord.Bytes) (is : Bool) : Prop := (is = true ∧ l = c :: t) ∨ (is = false ∧ t = l ∧ l.head? ≠ some c)

theorem cutPrefix_any (l : Ord.Bytes) (c : UInt8) (w : World) :
    Calls Tryd.prog 30 #[.string ⟨l.toArray⟩, .string ⟨#[c]⟩] w fun e w' => (∃ t is, CutP l c t is ∧ e = .returned (.tuple #[.string ⟨t.toArray⟩, .bool is])) ∧ w = w' := by
  refine (Any.strings_CutPrefix Tryd.lays103 ⟨l.toArray⟩ ⟨#[c]⟩ w).mono ?_
  rintro e w' ⟨rfl, rfl⟩
  refine ⟨⟨Lib.trimPrefix l [c], Lib.hasPrefix l [c], ?_, rfl⟩, rfl⟩
  cases l with
  | nil => exact .inr ⟨rfl, rfl, by simp⟩
  | cons a r =>
    by_cases h : a = c
    · subst h; exact .inl ⟨by simp [Lib.hasPrefix, List.isPrefixOf], by simp [Lib.trimPrefix, Lib.hasPrefix, List.isPrefixOf]⟩
    · have h' : (c == a) = false := by simpa using fun e => h e.symm
      exact .inr ⟨by simp [Lib.hasPrefix, List.isPrefixOf, h'], by simp [Lib.trimPrefix, Lib.hasPrefix, List.isPrefixOf, h'], by simpa using h⟩

/-- read's two places in memory: its result (R) and the one that it fills (P). -/
structure RP (w : World) (R P : Nat) (f c : Int) : Prop where
  r0 : w.cell? ⟨R, 0, none⟩ = some (.int .i64 0)
  r1 : w.cell? ⟨R, 1, none⟩ = some (.int .i64 0)
  rf0 : w.frozen? ⟨R, 0, none⟩ = false
  rf1 : w.frozen? ⟨R, 1, none⟩ = false
  p0 : w.cell? ⟨P, 0, none⟩ = some (.int .i64 f)
  p1 : w.cell? ⟨P, 1, none⟩ = some (.int .i64 c)
  pf0 : w.frozen? ⟨P, 0, none⟩ = false
  pf1 : w.frozen? ⟨P, 1, none⟩ = false

theorem RP.keep {w w' : World} {R P : Nat} {f c : Int} (h : RP w R P f c) (hb : Below w.heap.size w w') : RP w' R P f c := by
  have hR : R < w.heap.size := World.block_lt_of_cell? _ _ h.r0
  have hP : P < w.heap.size := World.block_lt_of_cell? _ _ h.p0
  obtain ⟨hc, hf⟩ := bcell hb
  exact ⟨by rw [hc _ _ hR]; exact h.r0, by rw [hc _ _ hR]; exact h.r1, by rw [hf _ _ hR]; exact h.rf0, by rw [hf _ _ hR]; exact h.rf1,
    by rw [hc _ _ hP]; exact h.p0, by rw [hc _ _ hP]; exact h.p1, by rw [hf _ _ hP]; exact h.pf0, by rw [hf _ _ hP]; exact h.pf1⟩

theorem readC_dot (t : Ord.Bytes) (leastC : Int) : Ord.readC (46 :: t) leastC = match Ord.number (t.takeWhile Ord.digit) 2147483647 with
    | none => none
    | some c => if c < leastC then none else some (c, t.dropWhile Ord.digit) := rfl
theorem readC_no (t : Ord.Bytes) (leastC : Int) (h : t.head? ≠ some 46) : Ord.readC t leastC = some (0, t) := by
  unfold Ord.readC
  split
  · simp at h
  · rfl

end Go.Proofs.YtnhopkjichgckaaDoor
