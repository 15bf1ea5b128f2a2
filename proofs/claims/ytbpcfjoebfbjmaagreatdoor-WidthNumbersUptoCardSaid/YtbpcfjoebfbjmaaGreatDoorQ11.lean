/-
  Texts of this seat put together: X1, S8, V2, V3.
-/
import Derived.Test.YtbpcfjoebfbjmaaGreatDoorQ10
import Derived.Test.YtbpcfjoebfbjmaaGreatDoorQ5
import Derived.Shelf.Bytes.SlJoin
import Derived.Shelf.Bits.Mul64
import Derived.Lib.MakeNoZero
import Derived.Laws.CopyOwn

/-
  The walks of text.Word, text.Diag. Condition: the error is one of those that there are.
-/
namespace Go.Proofs.YtbpcfjoebfbjmaaGreatDoor
open Go.RowKit Go.Shelf Go.Maps

/-- What is said of the errors. -/
def wordsL : List Bts := [[101, 114, 114, 111, 114], [110, 111, 32, 115, 117, 99, 104, 32, 102, 105, 108, 101], [102, 105, 108, 101, 32, 101, 120, 105, 115, 116, 115], [110, 111, 116, 32, 97, 32, 100, 105, 114, 101, 99, 116, 111, 114, 121], [105, 115, 32, 97, 32, 100, 105, 114, 101, 99, 116, 111, 114, 121], [100, 105, 114, 101, 99, 116, 111, 114, 121, 32, 110, 111, 116, 32, 101, 109, 112, 116, 121], [110, 111, 32, 115, 112, 97, 99, 101, 32, 108, 101, 102, 116], [105, 110, 112, 117, 116, 47, 111, 117, 116, 112, 117, 116, 32, 101, 114, 114, 111, 114], [98, 114, 111, 107, 101, 110, 32, 112, 105, 112, 101], [105, 110, 116, 101, 114, 114, 117, 112, 116, 101, 100], [110, 111, 116, 32, 110, 111, 119], [98, 97, 100, 32, 100, 101, 115, 99, 114, 105, 112, 116, 111, 114], [116, 111, 111, 32, 109, 97, 110, 121], [98, 97, 100, 32, 110, 97, 109, 101], [116, 111, 111, 32, 100, 101, 101, 112], [98, 117, 115, 121], [105, 110, 118, 97, 108, 105, 100], [98, 97, 100, 32, 97, 114, 103, 117, 109, 101, 110, 116], [108, 105, 110, 101, 32, 116, 111, 111, 32, 108, 111, 110, 103], [117, 115, 97, 103, 101], [98, 97, 100, 32, 114, 101, 103, 117, 108, 97, 114, 32, 101, 120, 112, 114, 101, 115, 115, 105, 111, 110], [98, 97, 100, 32, 115, 99, 114, 105, 112, 116], [110, 111, 116, 32, 102, 111, 117, 110, 100], [115, 97, 109, 101, 32, 102, 105, 108, 101], [98, 97, 100, 32, 115, 121, 110, 116, 97, 120], [110, 111, 116, 32, 97, 32, 110, 117, 109, 98, 101, 114], [110, 111, 116, 32, 105, 110, 32, 111, 114, 100, 101, 114]]
def wordOf (e : Nat) : Bts := wordsL.getD e []
/-- A line about an error. -/
def diagOf (tag op : Bts) (e : Nat) : Bts := tag ++ [58, 32] ++ (if op = [] then [] else op ++ [58, 32]) ++ wordOf e ++ [10]

theorem Blk.there {w : World} {b : Nat} {cs : Array Value} {t : TypeId} (h : Blk w b cs t) (n : Nat) (hn : n ≤ cs.size) : w.there b 0 n := fun j hj => by
  rw [Nat.zero_add, h.cell j (Array.getElem?_eq_getElem (show j < cs.size by omega))]
  exact ⟨rfl, h.free j⟩

set_option maxRecDepth 100000 in
set_option maxHeartbeats 4000000 in
theorem word_any (e : Nat) (he : e < 27) (w : World) : Calls Tryz.prog 202 #[.int .i64 e] w fun x w' => x = .returned (strV (wordOf e)) ∧ Below w.heap.size w w' := by
  have h1 : decide ((e : Int) < 0) = false := by simp
  have h2 : decide ((27 : Int) ≤ e) = false := by simp; omega
  have h3 : (e : Int) < 27 := by omega
  have h4 : (0 : Int) ≤ e := by omega
  have hat : ((wordsL.map strV).toArray)[e]? = some (strV (wordOf e)) := by
    have hl : e < wordsL.length := he
    simp only [List.getElem?_toArray, List.getElem?_map]
    rw [List.getElem?_eq_getElem hl]
    simp [wordOf, List.getD_eq_getElem?_getD, List.getElem?_eq_getElem hl]
  have hinfo : (Tryz.prog.info? 356).map (·.size) = some 27 := by kernel_rfl
  have hone : (wordsL.map strV).toArray.all (·.oneCell') = true := all_oneCell_toArray (by intro v hv; obtain ⟨s, -, rfl⟩ := List.mem_map.1 hv; rfl)
  have HAT := Lib.hid hat
  have HI := Lib.hid hinfo
  have HONE := Lib.hid hone
  clear hat hinfo hone
  obtain ⟨s, hs⟩ : ∃ s, strV (wordOf e) = .string s := ⟨_, rfl⟩
  rw [hs] at HAT ⊢
  go_enter Tryz.func202, Tryz.ntmps202
  go_wp2_with (refine wpList_store_mid rfl 356 _ _ rfl w.heap.size 0 _ rfl rfl (Blk.there (Blk.new w _ _) _ (by decide)) HI.out HONE.out ?_; generalize hW : World.setCells _ w.heap.size 0 _ = w2; refine Hid.out ?_)
  have hb2 : Blk w2 w.heap.size (wordsL.map strV).toArray 356 := by rw [← hW]; exact Blk.setAll (Blk.new w _ _) rfl
  have hbel : Below w.heap.size w w2 := by rw [← hW]; exact (Kept.setCells (S := fun _ => False) (.inr (Nat.le_refl _)) _ 0 _ ((Kept.refl _ w).alloc _)).below
  clear hW
  have hc := hb2.cell e HAT.out
  have HBL := Lib.hid hbel
  clear hb2 hbel
  refine Lib.hid ?_
  go_wp2_with fail
  go_ret
  exact ⟨rfl, HBL.out⟩

/-- A text turned to bytes. -/
theorem conv_facts (l : Bts) (w : World) : ∃ c w1, (convert 9 22 (.string ⟨l.toArray⟩)).run Tryz.prog w = .ok (.slice (some ⟨w.heap.size, 0, none⟩) l.length c) w1 ∧ l.length ≤ c ∧ Below w.heap.size w w1 ∧ Bs w1 (some ⟨w.heap.size, 0, none⟩) l ∧ w.heap.size < w1.heap.size := by
  have hsz : (⟨l.toArray⟩ : ByteArray).size = l.length := by simp [ByteArray.size]
  have h := Lib.run_convert_string_bytes (P := Tryz.prog) w 9 22 5 ⟨l.toArray⟩ Tryz.underlying9 Tryz.underlying22 Tryz.underlying5
  rw [hsz] at h
  refine ⟨_, _, h, ?_, Lib.bytesWorld_below w 5 ⟨l.toArray⟩, fun hl => ⟨_, 0, rfl, fun i hi => ?_⟩, ?_⟩
  · exact grownCap_ge _ _ _ _
  · rw [Nat.zero_add]
    exact Lib.bytesWorld_cell w 5 ⟨l.toArray⟩ i (by rw [hsz]; exact hi)
  · simp [Lib.bytesWorld, World.freeze]

theorem str_app (a b : Bts) : (⟨a.toArray⟩ : ByteArray) ++ ⟨b.toArray⟩ = ⟨(a ++ b).toArray⟩ := by
  apply ByteArray.ext; simp

theorem wordOf_len (e : Nat) : (wordOf e).length ≤ 30 := by
  have h : ∀ x ∈ wordsL, x.length ≤ 30 := by decide
  unfold wordOf
  rw [List.getD_eq_getElem?_getD]
  cases hx : wordsL[e]? with
  | none => simp
  | some x => simpa using h x (List.mem_of_getElem? hx)

set_option maxRecDepth 100000 in
set_option maxHeartbeats 4000000 in
theorem diag_any (tag op : Bts) (e : Nat) (he : e < 27) (h1 : tag.length ≤ 1000000000) (h2 : op.length ≤ 1000000000) (w : World) :
    Calls Tryz.prog 168 #[.string ⟨tag.toArray⟩, .string ⟨op.toArray⟩, .int .i64 e] w fun x w' => ∃ v, x = .returned v ∧ Sl w' (fun g => w.heap.size ≤ g) v (diagOf tag op e) ∧ Below w.heap.size w w' := by
  have hw := word_any e he w
  unfold strV at hw
  have hwl := wordOf_len e
  by_cases hop : op = []
  · subst hop
    have hA : (9223372036854775807 < tag.length + 2 + (wordOf e).length) = False := by simp; omega
    have hB : (9223372036854775807 < tag.length + 2 + (wordOf e).length + 1) = False := by simp; omega
    go_enter Tryz.func168, Tryz.ntmps168
    go_wp2_with fail
    refine hw.mono ?_
    rintro x w1 ⟨rfl, hb1⟩
    obtain ⟨c, w2, hcv, hcl, hb2, hbs, hlt⟩ := conv_facts (diagOf tag [] e) w1
    have heq : (⟨tag.toArray⟩ : ByteArray) ++ ⟨#[58, 32]⟩ ++ ⟨#[]⟩ ++ ⟨(wordOf e).toArray⟩ ++ ⟨#[10]⟩ = ⟨(diagOf tag [] e).toArray⟩ := by
      apply ByteArray.ext; simp [diagOf]
    rw [← heq] at hcv
    have HBS := Lib.hid hbs
    have HB2 := Lib.hid hb2
    have HB1 := Lib.hid hb1
    clear hbs hb1 hb2 heq hw
    go_wp2_with fail
    go_ret
    refine ⟨_, rfl, ?_, HB1.out.trans (HB2.out.mono HB1.out.size)⟩
    have hpos : 0 < (diagOf tag [] e).length := by simp [diagOf]; omega
    obtain ⟨b, o, hq, hc⟩ := HBS.out hpos
    injection hq with hq
    injection hq with hq1 hq2
    subst hq1 hq2
    exact .inr ⟨_, 0, c, rfl, hcl, hlt, HB1.out.size, hc⟩
  · have hne : ((⟨op.toArray⟩ : ByteArray) == ⟨#[]⟩) = false := by rw [str_nil]; cases op with | nil => exact absurd rfl hop | cons _ _ => rfl
    have hem : op.isEmpty = false := by cases op with | nil => exact absurd rfl hop | cons _ _ => rfl
    have hA : (9223372036854775807 < tag.length + 2 + (op.length + 2) + (wordOf e).length) = False := by simp; omega
    have hB : (9223372036854775807 < tag.length + 2 + (op.length + 2) + (wordOf e).length + 1) = False := by simp; omega
    go_enter Tryz.func168, Tryz.ntmps168
    go_wp2_with fail
    refine hw.mono ?_
    rintro x w1 ⟨rfl, hb1⟩
    obtain ⟨c, w2, hcv, hcl, hb2, hbs, hlt⟩ := conv_facts (diagOf tag op e) w1
    have heq : (⟨tag.toArray⟩ : ByteArray) ++ ⟨#[58, 32]⟩ ++ (⟨op.toArray⟩ ++ ⟨#[58, 32]⟩) ++ ⟨(wordOf e).toArray⟩ ++ ⟨#[10]⟩ = ⟨(diagOf tag op e).toArray⟩ := by
      apply ByteArray.ext; simp [diagOf, hop]
    rw [← heq] at hcv
    have HBS := Lib.hid hbs
    have HB2 := Lib.hid hb2
    have HB1 := Lib.hid hb1
    clear hbs hb1 hb2 heq hw
    go_wp2_with fail
    go_ret
    refine ⟨_, rfl, ?_, HB1.out.trans (HB2.out.mono HB1.out.size)⟩
    have hpos : 0 < (diagOf tag op e).length := by simp [diagOf]; omega
    obtain ⟨b, o, hq, hc⟩ := HBS.out hpos
    injection hq with hq
    injection hq with hq1 hq2
    subst hq1 hq2
    exact .inr ⟨_, 0, c, rfl, hcl, hlt, HB1.out.size, hc⟩

end Go.Proofs.YtbpcfjoebfbjmaaGreatDoor

/-
  The walks of Say, Feed, Open of a dash, Close of descriptor 0. Conditions: a process that runs, with arguments; lengths.
-/
namespace Go.Proofs.YtbpcfjoebfbjmaaGreatDoor
open Go.RowKit Go.Shelf Go.Maps

theorem strs_cell {w : World} {B : Nat} {v : Value} {l : List Bts} (h : StrsOwn w B v l) (i : Nat) (hi : i < l.length) : ∃ g c, v = .slice (some ⟨g, 0, none⟩) l.length c ∧ l.length ≤ c ∧ B ≤ g ∧ g < w.heap.size ∧ ∀ j, j < l.length → w.cell? ⟨g, j, none⟩ = some (strV (l.getD j [])) := by
  rcases h.2 with ⟨-, h2⟩ | ⟨g, cap, cur, rfl, hb, hblk, hc, r⟩
  · omega
  · refine ⟨g, cap, rfl, hc, hb, lt_of_block hblk, fun j hj => ?_⟩
    have := h.cellAt j (by omega)
    rw [this]
    simp [List.getD_eq_getElem?_getD, hj]

set_option maxRecDepth 100000 in
set_option maxHeartbeats 4000000 in
theorem say_any (F : Fx) (M : Nat → Prop) (inp out err a0 op : Bts) (rest : List Bts) (e : Nat) (he : e < 27) (w : World) (h : PrAt w F M inp out err) (ha : F.args = a0 :: rest) (h1 : a0.length ≤ 1000000000) (h2 : op.length ≤ 1000000000) (hbig : err.length + (diagOf a0 op e).length ≤ 4294967296) :
    Calls Tryz.prog 116 #[.pointer (some ⟨F.p, 0, none⟩), .string ⟨op.toArray⟩, .int .i64 e] w fun x w' => (∃ v, x = .returned v) ∧ ∃ M', PrAt w' F M' inp out (err ++ diagOf a0 op e) ∧ Mv M M' w w' := by
  have hargs := args_any F M inp out err w h
  have hdiag := fun w => diag_any a0 op e he h1 h2 w
  rw [ha] at hargs
  have H := Lib.hid h
  clear h
  go_enter Tryz.func116, Tryz.ntmps116
  go_wp2_with fail
  refine hargs.mono ?_
  rintro x w1 ⟨v, rfl, ho1, hb1⟩
  obtain ⟨g, c, rfl, -, -, -, hc⟩ := strs_cell ho1 0 (by simp)
  have c0 := hc 0 (by simp)
  simp only [List.getD_cons_zero, strV] at c0
  have hlen : (0 : Int) < ((a0 :: rest).length : Nat) := by simp
  have HB1 := Lib.hid hb1
  clear hargs ho1 hc hb1
  generalize (a0 :: rest).length = n at *
  go_wp2_with fail
  refine (hdiag _).mono ?_
  rintro x w2 ⟨v, rfl, hs2, hb2⟩
  obtain ⟨pv, cv, rfl, -⟩ := hs2.bs
  have hb12 := HB1.out.trans (hb2.mono HB1.out.size)
  have hw := wrAll_any2 F M inp out err (diagOf a0 op e) _ w2 (H.out.below hb12) (hs2.mono fun g _ hg em => by
    have h1 : w1.heap.size ≤ g := hg
    have := HB1.out.size
    have := H.out.lt g em
    omega) hbig
  have HB := Lib.hid hb12
  clear hs2 hb2 hb12 hdiag c0
  go_wp2_with fail
  refine hw.mono ?_
  rintro x w3 ⟨rfl, M', hp3, hm3⟩
  have HP3 := Lib.hid hp3
  have HM3 := Lib.hid hm3
  clear hp3 hm3 hw
  go_wp2_with fail
  refine bodyPost_end (results_none rfl _ _ _) rfl ⟨⟨_, rfl⟩, M', HP3.out, (Mv.below HB.out).trans HM3.out⟩

set_option maxRecDepth 100000 in
theorem feed_any (F : Fx) (rd : Nat) (v : Value) (o : Nat) (feed over : Bool) (w : World) (h : RdBlk w F.p rd v o feed over) :
    Calls Tryz.prog 120 #[.pointer (some ⟨rd, 0, none⟩)] w fun e w' => e = .returned (.bool feed) ∧ w' = w := by
  have c4 := h.cell 4 (v := .bool feed) rfl
  clear h
  go_enter Tryz.func120, Tryz.ntmps120
  go_wp2_with fail
  go_ret
  exact ⟨rfl, rfl⟩

set_option maxRecDepth 100000 in
theorem openDash_any (p : Option Addr) (w : World) :
    Calls Tryz.prog 117 #[.pointer p, .string ⟨#[45]⟩] w fun e w' => e = .returned (.tuple #[.int .i64 0, .int .i64 0]) ∧ w' = w := by
  go_enter Tryz.func117, Tryz.ntmps117
  go_wp2_with fail
  go_ret2
  exact ⟨rfl, rfl⟩

set_option maxRecDepth 100000 in
theorem close0_any (p : Option Addr) (w : World) :
    Calls Tryz.prog 124 #[.pointer p, .int .i64 0] w fun e w' => (∃ v, e = .returned v) ∧ w' = w := by
  go_enter Tryz.func124, Tryz.ntmps124
  go_wp2_with fail
  exact bodyPost_end (results_none rfl _ _ _) rfl ⟨⟨_, rfl⟩, rfl⟩

end Go.Proofs.YtbpcfjoebfbjmaaGreatDoor

/-
  The walks of width's join of two, of bytes.Repeat and blanks. Conditions: lengths.
-/
namespace Go.Proofs.YtbpcfjoebfbjmaaGreatDoor
open Go.RowKit Go.Shelf Go.Maps

/-- Bytes that a slice's value leads to; of none whatever block. -/
def SlE (w : World) (N : Nat → Prop) (v : Value) (xs : Bts) : Prop := (xs = [] ∧ ∃ p c, v = .slice p 0 c) ∨ (xs ≠ [] ∧ Sl w N v xs)
theorem SlE.of {w : World} {N : Nat → Prop} {v : Value} {xs : Bts} (h : Sl w N v xs) : SlE w N v xs := by
  by_cases hx : xs = []
  · subst hx; obtain ⟨p, c, e, -, -⟩ := h.bs; exact .inl ⟨rfl, p, c, e⟩
  · exact .inr ⟨hx, h⟩
theorem SlE.bs {w : World} {N : Nat → Prop} {v : Value} {xs : Bts} (h : SlE w N v xs) : ∃ p c, v = .slice p xs.length c ∧ Bs w p xs := by
  rcases h with ⟨rfl, p, c, e⟩ | ⟨-, h⟩
  · exact ⟨p, c, e, Bs.nil _ _⟩
  · obtain ⟨p, c, e, hb, -⟩ := h.bs; exact ⟨p, c, e, hb⟩
theorem SlE.mono {w : World} {N M : Nat → Prop} {v : Value} {xs : Bts} (h : SlE w N v xs) (hM : ∀ g, g < w.heap.size → N g → M g) : SlE w M v xs :=
  h.imp id fun h => ⟨h.1, h.2.mono hM⟩
theorem SlE.kept {w w' : World} {N S : Nat → Prop} {v : Value} {xs : Bts} (h : SlE w N v xs) (hk : Kept S w w') (hS : ∀ g, g < w.heap.size → N g → ¬ S g) : SlE w' N v xs :=
  h.imp id fun h => ⟨h.1, h.2.kept hk hS⟩
theorem SlE.below {w w' : World} {N : Nat → Prop} {v : Value} {xs : Bts} (h : SlE w N v xs) (hb : Below w.heap.size w w') : SlE w' N v xs := h.kept (Kept.of_below (S := fun _ => False) hb) fun _ _ _ => id

theorem slE_fresh {B : Nat} {w : World} {v : Value} {xs : Bts} (h : Lib.FreshBytes B w v xs) : SlE w (fun g => B ≤ g) v xs := by
  obtain ⟨g, cap, zs, rfl, hB, hle, -, hz, hbd, hby, hc, -⟩ := h
  by_cases hx : xs = []
  · subst hx; exact .inl ⟨rfl, _, _, rfl⟩
  · refine .inr ⟨hx, .inr ⟨g, 0, cap, rfl, hle, ?_, hB, fun i hi => ?_⟩⟩
    · have hp : 0 < xs.length := List.length_pos_iff.2 hx
      exact World.block_lt_of_cell? _ _ (hc 0 (by omega))
    · rw [Nat.zero_add, hc i (by omega)]
      have hiz : i < zs.length := by omega
      have ez : zs.getD i 0 = zs[i] := by simp [List.getD_eq_getElem?_getD, List.getElem?_eq_getElem hiz]
      have e1 : xs.getD i 0 = UInt8.ofNat (zs[i]).toNat := by
        rw [← hby]
        have hit : i < (zs.take xs.length).length := by simp; omega
        unfold Lib.bytesOf
        simp [List.getD_eq_getElem?_getD, List.getElem?_map, hi, List.getElem?_eq_getElem hiz]
      obtain ⟨h0, h1⟩ := hbd zs[i] (List.getElem_mem hiz)
      rw [ez, e1, UInt8.toNat_ofNat_of_lt' (show (zs[i]).toNat < 256 by omega), Int.toNat_of_nonneg h0]
theorem SlE.holds {w : World} {N : Nat → Prop} {v : Value} {xs : Bts} (h : SlE w N v xs) : Lib.HoldsBytes w v xs := by
  obtain ⟨p, c, rfl, hb⟩ := h.bs
  refine ⟨p, c, rfl, fun hp => ?_, fun a ha i x hx => ?_⟩
  · rcases Nat.eq_zero_or_pos xs.length with h0 | h0
    · exact List.eq_nil_of_length_eq_zero h0
    · obtain ⟨b, o, e, -⟩ := hb h0; rw [hp] at e; cases e
  · have hi : i < xs.length := (List.getElem?_eq_some_iff.1 hx).1
    obtain ⟨b, o, e, hc⟩ := hb (by omega)
    rw [ha] at e
    injection e with e
    subst e
    rw [show ((⟨b, o, none⟩ : Addr).add i) = ⟨b, o + i, none⟩ by simp only [Addr.add]; split <;> simp_all, hc i hi]
    simp [List.getD_eq_getElem?_getD, hx]

set_option maxRecDepth 100000 in
set_option maxHeartbeats 2000000 in
theorem join2_any (b o c : Nat) (hc : 2 ≤ c) (v1 v2 : Value) (xs ys : Bts) (N1 N2 : Nat → Prop) (w : World) (h0 : w.cell? ⟨b, o, none⟩ = some v1) (h1 : w.cell? ⟨b, o + 1, none⟩ = some v2) (s1 : SlE w N1 v1 xs) (s2 : SlE w N2 v2 ys) (hl : xs.length + ys.length ≤ 4294967296) :
    Calls Tryz.prog 122 #[.slice (some ⟨b, o, none⟩) 2 c] w fun e w' => ∃ v, e = .returned v ∧ SlE w' (fun g => w.heap.size ≤ g) v (xs ++ ys) ∧ Below w.heap.size w w' := by
  have hj := Any.bytes_Join_many Tryz.laysSlJ14 b o 2 c [v1, v2] [xs, ys] (.slice none 0 0) [] w rfl (by decide) ⟨rfl, fun i v hv => by
      have : i = 0 ∨ i = 1 := by
        have := (List.getElem?_eq_some_iff.1 hv).1
        simp at this; omega
      rw [show ((⟨b, o, none⟩ : Addr).add i) = ⟨b, o + i, none⟩ by simp only [Addr.add]; split <;> simp_all]
      rcases this with rfl | rfl
      · simp at hv; subst hv; simpa using h0
      · simp at hv; subst hv; exact h1, fun i v l hv hl => by
      have : i = 0 ∨ i = 1 := by
        have := (List.getElem?_eq_some_iff.1 hv).1
        simp at this; omega
      rcases this with rfl | rfl
      · simp at hv hl; subst hv; subst hl; exact s1.holds
      · simp at hv hl; subst hv; subst hl; exact s2.holds⟩ hc ⟨none, 0, rfl, fun _ => rfl, fun a ha => by cases ha⟩ (by decide) (by simp [Lib.lens]; omega)
  have e : Lib.join [xs, ys] [] = xs ++ ys := by simp [Lib.join, List.intercalate]
  rw [e] at hj
  clear h0 h1 s1 s2 e
  go_enter Tryz.func122, Tryz.ntmps122
  go_wp2_with fail
  refine hj.mono ?_
  rintro e w1 ⟨v, rfl, hf, hb⟩
  have HF := Lib.hid (slE_fresh hf)
  have HB := Lib.hid hb
  clear hf hb hj
  go_wp2_with fail
  go_ret
  exact ⟨_, rfl, HF.out, HB.out⟩

end Go.Proofs.YtbpcfjoebfbjmaaGreatDoor

/-
  The walks of bytes.Repeat of one blank, and of blanks. Condition: at most 8192 of them.
-/
namespace Go.Proofs.YtbpcfjoebfbjmaaGreatDoor
open Go.RowKit Go.Shelf Go.Maps

theorem noZero (n : Nat) (hn : n ≤ 281474976710656) (w : World) : ∃ cs : Array Value, (callFunc 211 #[.int .i64 n]).run Tryz.prog w = .ok (.value (.slice (some ⟨w.heap.size, 0, none⟩) n cs.size)) (w.drew.drew.alloc (.cells cs 5)) ∧ n ≤ cs.size := by
  obtain ⟨cs, hrunM, hle, -⟩ := Lib.run_makeNoZero (P := Tryz.prog) w #[3] 22 5 Tryz.underlying22 n hn
  refine ⟨cs, ?_, hle⟩
  rw [run_callFunc_extern Tryz.func211 (by kernel_rfl) (by kernel_rfl) (by kernel_rfl) (e := Extern.BytealgMakeNoZero.makeNoZero #[3] #[22]) (by kernel_rfl), hrunM]
  rfl

/-- So many blanks lie at a row's beginning. -/
def BlksAt (W : World) (g : Nat) (k cap : Nat) : Prop := ∃ cur : List Value, W.heap[g]? = some (.cells cur.toArray 5 (0, 0)) ∧ cur.length = cap ∧ k ≤ cap ∧ ∀ i, i < k → cur[i]? = some (.int .u8 32)

theorem BlksAt.cell {W : World} {g k cap : Nat} (h : BlksAt W g k cap) (i : Nat) (hi : i < k) : W.cell? ⟨g, i, none⟩ = some (.int .u8 32) := by
  obtain ⟨cur, hb, -, -, hc⟩ := h
  have : Blk W g cur.toArray 5 := hb
  exact this.cell i (by simpa using hc i hi)
theorem splice_blanks {cur : List Value} {k m : Nat} (hm : k + m ≤ cur.length) (h : ∀ i, i < k → cur[i]? = some (.int .u8 32)) : (splice cur k (List.replicate m (.int .u8 32))).length = cur.length ∧ ∀ i, i < k + m → (splice cur k (List.replicate m (.int .u8 32)))[i]? = some (.int .u8 32) := by
  refine ⟨length_splice _ _ _ (by simpa using hm), fun i hi => ?_⟩
  unfold splice
  by_cases h1 : i < k
  · rw [List.getElem?_append_left (by simp; omega), List.getElem?_take, if_pos h1]
    exact h i h1
  · rw [List.getElem?_append_right (by simp; omega), List.getElem?_append_left (by simp; omega)]
    rw [List.getElem?_replicate, if_pos (by simp; omega)]

set_option maxRecDepth 100000 in
set_option maxHeartbeats 1000000 in
theorem repeat_any (n : Nat) (hn : n ≤ 8192) (b o c : Nat) (_hc : 1 ≤ c) (w : World) (h0 : w.cell? ⟨b, o, none⟩ = some (.int .u8 32)) :
    Calls Tryz.prog 182 #[.slice (some ⟨b, o, none⟩) 1 c, .int .i64 n] w fun e w' => ∃ v, e = .returned v ∧ SlE w' (fun g => w.heap.size ≤ g) v (List.replicate n 32) ∧ (∃ b c, v = .slice (some ⟨b, 0, none⟩) n c ∧ n ≤ c) ∧ Below w.heap.size w w' := by
  rcases Nat.eq_zero_or_pos n with rfl | hpos
  · clear h0
    go_enter Tryz.func182, Tryz.ntmps182
    go_wp2_with fail
    go_ret
    exact ⟨_, rfl, .inl ⟨rfl, _, _, rfl⟩, ⟨_, _, rfl, Nat.zero_le _⟩, (Below.refl _ _).alloc (Nat.le_refl _) _⟩
  · have hm := Any.bits_Mul Tryz.lays212 1 n (by decide) (by omega) w
    rw [show ((1 * n / 18446744073709551616 : Nat) : Int) = 0 by have : 1 * n / 18446744073709551616 = 0 := Nat.div_eq_of_lt (by omega); rw [this]; rfl, show ((1 * n % 18446744073709551616 : Nat) : Int) = n by rw [Nat.one_mul, Nat.mod_eq_of_lt (by omega)]] at hm
    obtain ⟨cs, hz, hcs⟩ := noZero n (by omega) w
    have hb1 : Below w.heap.size w (w.drew.drew.alloc (.cells cs 5)) := ((below_drew w.heap.size w).trans (below_drew _ _)).alloc (by simp) _
    have hg1 : (w.drew.drew.alloc (.cells cs 5)).heap[w.heap.size]? = some (.cells cs 5 (0, 0)) := Blk.new w.drew.drew cs 5
    have h01 : (w.drew.drew.alloc (.cells cs 5)).cell? ⟨b, o, none⟩ = some (.int .u8 32) := (hb1.cell (p := ⟨b, o, none⟩) (World.block_lt_of_cell? _ _ h0)).trans h0
    have e1 : ((n : Int) == 0) = false := by simp; omega
    have e2 : decide ((n : Int) < 0) = false := by simp
    have e3 : decide ((9223372036854775807 : Int) < (n : Int)) = false := by simp; omega
    have e4 : decide ((8192 : Int) < (n : Int)) = false := by simp; omega
    have e5 : (0 : Int) ≤ n := by omega
    have e6 : (n : Int) ≤ cs.size := by omega
    have e7 : (n : Int) ≤ n := Int.le_refl _
    have HB1 : Hid (Below w.heap.size w (w.alloc (.cells cs 5)).drew.drew) := hb1
    have HG1 : Hid ((w.alloc (.cells cs 5)).drew.drew.heap[w.heap.size]? = some (.cells cs.toList.toArray 5 (0, 0))) := by show _ = _; rw [Array.toArray_toList]; exact hg1
    have H01 : Hid ((w.alloc (.cells cs 5)).drew.drew.cell? ⟨b, o, none⟩ = some (.int .u8 32)) := h01
    have hui := (by kernel_rfl : (Tryz.prog.info? 5).map (·.size) = some 1)
    have HUI := Lib.hid hui
    have hadd : ∀ i, ((⟨b, o, none⟩ : Addr).add i) = ⟨b, o + i, none⟩ := fun i => by simp only [Addr.add]; split <;> simp_all
    have HADD := Lib.hid hadd
    have HN : Hid (∀ j v, [Value.int .u8 32][j]? = some v → (w.alloc (.cells cs 5)).drew.drew.cell? ((⟨b, o, none⟩ : Addr).add j) = some v) := Lib.hid (by
      intro j v hj
      obtain rfl : j = 0 := by have := (List.getElem?_eq_some_iff.1 hj).1; simpa using this
      simp at hj
      rw [hadd, ← hj]; exact h01)
    have HMIN : Hid ([Value.int .u8 32].length = Nat.min 1 n) := Lib.hid (Nat.min_eq_left hpos).symm
    have HFIT : Hid (0 + [Value.int .u8 32].length ≤ cs.toList.length) := Lib.hid (by rw [Array.length_toList]; simp; omega)
    clear hb1 hg1 h01 h0 hui hadd
    go_enter Tryz.func182, Tryz.ntmps182
    go_wp2_with fail
    refine hm.mono ?_
    rintro e w1 ⟨rfl, rfl⟩
    clear hm
    go_wp2_with (refine wpList_copy_splice rfl _ _ 22 22 rfl 5 Tryz.underlying22 HUI.out (some ⟨w1.heap.size, 0, none⟩) (some ⟨b, o, none⟩) n n 1 c rfl rfl w1.heap.size 0 cs.toList 5 HG1.out [.int .u8 32] HMIN.out (fun _ => ⟨rfl, _, rfl, HN.out⟩) HFIT.out (by simp [Value.oneCell']) w1.heap.size w1 HB1.out (Nat.le_refl _) ?_; intro w2 hw2 hb2)
    have hk1 : BlksAt w2 w1.heap.size 1 cs.size := by
      have := splice_blanks (cur := cs.toList) (k := 0) (m := 1) (by simp; omega) (fun i hi => by omega)
      exact ⟨_, hw2.out, by simpa using this.1, by omega, fun i hi => this.2 i (by omega)⟩
    have HK1 := Lib.hid hk1
    have HB2 := Lib.hid hb2
    clear hw2 hk1 hb2
    go_wp2_with fail
    go_loopw [10, 11] (fun x10 _x11 wr => ∃ k : Nat, 1 ≤ k ∧ k ≤ n ∧ x10 = .int .i64 k ∧ Hid (BlksAt wr w1.heap.size k cs.size) ∧ Hid (Below w1.heap.size w1 wr)) (fun x10 _ _ => n - (intOf x10).toNat)
    case atStart => exact ⟨1, Nat.le_refl _, hpos, rfl, HK1, HB2⟩
    case round =>
      clear HK1 HB2 HB1 HG1 H01
      obtain ⟨k, hk1, hkn, rfl, hblk, hbel⟩ := hrel
      by_cases hlt : k < n
      · have hmin : min (k : Int) (n : Int) = k := by omega
        obtain ⟨cur, hcb, hcl, hkc, hcc⟩ := hblk.out
        obtain ⟨m, hm⟩ : ∃ m, Nat.min k (n - k) = m := ⟨_, rfl⟩
        have hm1 : 1 ≤ m := by rw [← hm]; exact Nat.le_min.2 ⟨hk1, by omega⟩
        have hm2 : k + m ≤ n := by have : m ≤ n - k := by rw [← hm]; exact Nat.min_le_right _ _
                                   omega
        have hmk : m ≤ k := by rw [← hm]; exact Nat.min_le_left _ _
        have hsp := splice_blanks (cur := cur) (k := k) (m := m) (by omega) hcc
        have HN : Hid (∀ j v, (List.replicate m (Value.int .u8 32))[j]? = some v → wr.drew.cell? ((⟨w1.heap.size, 0, none⟩ : Addr).add j) = some v) := Lib.hid (by
          intro j v hj
          rw [World.cell?_drew]
          have hjm : j < m := by have := (List.getElem?_eq_some_iff.1 hj).1; simpa using this
          rw [List.getElem?_replicate, if_pos hjm] at hj
          injection hj with hj
          subst hj
          rw [show ((⟨w1.heap.size, 0, none⟩ : Addr).add j) = ⟨w1.heap.size, j, none⟩ by simp only [Addr.add, Nat.zero_add]; split <;> simp_all]
          exact hblk.out.cell j (by omega))
        have HM : Hid ((List.replicate m (Value.int .u8 32)).length = Nat.min k (n - k)) := Lib.hid (by rw [List.length_replicate, hm])
        have HBE : Hid (Below w1.heap.size w1 wr.drew) := Lib.hid (hbel.out.trans (below_drew _ wr))
        have HCB : Hid (wr.drew.heap[w1.heap.size]? = some (.cells cur.toArray 5 (0, 0))) := hcb
        have HFIT : Hid (k + (List.replicate m (Value.int .u8 32)).length ≤ cur.length) := Lib.hid (by rw [List.length_replicate]; omega)
        have HONE : Hid (∀ v ∈ List.replicate m (Value.int .u8 32), v.oneCell' = true) := Lib.hid (by intro v hv; rw [(List.mem_replicate.1 hv).2]; rfl)
        have HSP := Lib.hid hsp
        have hb1 : (k : Int) ≤ n := by omega
        have hb2 : (0 : Int) ≤ k := by omega
        have hnk : ¬ n = k := by omega
        clear hcb hm hsp hcc hblk
        go_wp2_with fail
        go_region_law ((refine step_copy_splice (by rfl) _ _ 22 22 (by rfl) 5 Tryz.underlying22 HUI.out (some ⟨w1.heap.size, k, none⟩) (some ⟨w1.heap.size, 0, none⟩) (n - k) (n - k) k n (by go_simp) (by go_simp) w1.heap.size k cur 5 HCB.out (List.replicate m (.int .u8 32)) HM.out (fun _ => ⟨rfl, _, rfl, HN.out⟩) HFIT.out HONE.out w1.heap.size w1 HBE.out (Nat.le_refl _) ?_; intro w3 hw3 hb3))
        have hk3 : BlksAt w3 w1.heap.size (k + m) cs.size := ⟨_, hw3.out, by rw [HSP.out.1]; exact hcl, by omega, HSP.out.2⟩
        have HK3 := Lib.hid hk3
        have HB3 := Lib.hid hb3
        clear hw3 hk3 hb3
        have hwr : IntKind.i64.wrap ((k : Int) + m) = (k : Int) + m := by rw [IntKind.wrap_i64]; omega
        simp [Act.put]
        go_roundw
        case rel => exact ⟨_, _, _, _, _, _, _, _, _, _, _, _, _, _, _, _, _, ⟨k + m, by omega, hm2, by simp [hwr], HK3, HB3⟩, rfl⟩
        case measure => simp [intOf, hwr]; omega
      · obtain rfl : k = n := by omega
        go_wp2_with fail
        go_ret
        refine ⟨_, rfl, .inr ⟨by intro e; have := congrArg List.length e; simp at this; omega, .inr ⟨w1.heap.size, 0, k, by simp, by simp, ?_, Nat.le_refl _, fun i hi => ?_⟩⟩, ⟨_, _, rfl, by omega⟩, hbel.out⟩
        · obtain ⟨cur, hb, -⟩ := hblk.out
          exact lt_of_heap hb
        · rw [Nat.zero_add, hblk.out.cell i (by simpa using hi)]
          simp at hi
          simp [List.getD_eq_getElem?_getD, hi]

set_option maxRecDepth 100000 in
set_option maxHeartbeats 1000000 in
theorem blanks_some (n : Int) (hn : n ≤ 8192) (hn0 : -9223372036854775808 ≤ n) (w : World) :
    Calls Tryz.prog 133 #[.int .i64 n] w fun e w' => ∃ v, e = .returned v ∧ SlE w' (fun g => w.heap.size ≤ g) v (List.replicate n.toNat 32) ∧ (∃ b c, v = .slice (some ⟨b, 0, none⟩) n.toNat c ∧ n.toNat ≤ c) ∧ Below w.heap.size w w' := by
  obtain ⟨m, hmax, hm1, hm2⟩ : ∃ m : Nat, max (0 : Int) n = m ∧ m ≤ 8192 ∧ n.toNat = m := ⟨n.toNat, by omega, by omega, rfl⟩
  rw [hm2]
  clear hm2
  have hb1 : Below w.heap.size w (w.alloc (.cells #[.int .u8 32] 5)) := (Below.refl _ _).alloc (Nat.le_refl _) _
  have hr := repeat_any m hm1 w.heap.size 0 1 (Nat.le_refl _) (w.alloc (.cells #[.int .u8 32] 5)) ((Blk.new w #[.int .u8 32] 5).cell 0 rfl)
  have HB := Lib.hid hb1
  clear hb1
  go_enter Tryz.func133, Tryz.ntmps133
  go_wp2_with fail
  refine hr.mono ?_
  rintro e w1 ⟨v, rfl, hs, hv, hb⟩
  have HS := Lib.hid hs
  have HB2 := Lib.hid hb
  have HV := Lib.hid hv
  obtain ⟨b5, c5, rfl, -⟩ := id hv
  clear hs hb hr hv
  go_wp2_with fail
  go_ret
  exact ⟨_, rfl, HS.out.mono (fun g _ hg => by simp at hg; omega), HV.out, HB.out.trans (HB2.out.mono (by simp))⟩

theorem blanks_any (n : Int) (hn : n ≤ 8192) (hn0 : -9223372036854775808 ≤ n) (w : World) :
    Calls Tryz.prog 133 #[.int .i64 n] w fun e w' => ∃ v, e = .returned v ∧ SlE w' (fun g => w.heap.size ≤ g) v (List.replicate n.toNat 32) ∧ Below w.heap.size w w' :=
  (blanks_some n hn hn0 w).mono fun _ _ ⟨v, he, hs, _, hb⟩ => ⟨v, he, hs, hb⟩

end Go.Proofs.YtbpcfjoebfbjmaaGreatDoor
