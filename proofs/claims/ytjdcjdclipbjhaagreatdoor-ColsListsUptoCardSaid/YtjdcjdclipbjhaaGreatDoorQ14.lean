/-
  Texts of this seat put together: X1, Rp2, Rp3, Rp4, C1.
-/
import Derived.Test.YtjdcjdclipbjhaaGreatDoorQ13
import Derived.Test.YtjdcjdclipbjhaaGreatDoorQ12
import Derived.Lib.Small
import Derived.Deep.MidRow
import Derived.Defers
import Derived.Laws.NewBlocks
import Derived.Test.YtjdcjdclipbjhaaGreatDoorQ5
import Derived.Test.YtjdcjdclipbjhaaGreatDoorQ6

/-
  The walks of text.Word, text.Diag. Condition: the error is one of those that there are.
-/
namespace Go.Proofs.YtjdcjdclipbjhaaGreatDoor
open Go.RowKit Go.Shelf Go.Maps

/-- What is said of the errors. -/
def wordsL : List Bts := [[101, 114, 114, 111, 114], [110, 111, 32, 115, 117, 99, 104, 32, 102, 105, 108, 101], [102, 105, 108, 101, 32, 101, 120, 105, 115, 116, 115], [110, 111, 116, 32, 97, 32, 100, 105, 114, 101, 99, 116, 111, 114, 121], [105, 115, 32, 97, 32, 100, 105, 114, 101, 99, 116, 111, 114, 121], [100, 105, 114, 101, 99, 116, 111, 114, 121, 32, 110, 111, 116, 32, 101, 109, 112, 116, 121], [110, 111, 32, 115, 112, 97, 99, 101, 32, 108, 101, 102, 116], [105, 110, 112, 117, 116, 47, 111, 117, 116, 112, 117, 116, 32, 101, 114, 114, 111, 114], [98, 114, 111, 107, 101, 110, 32, 112, 105, 112, 101], [105, 110, 116, 101, 114, 114, 117, 112, 116, 101, 100], [110, 111, 116, 32, 110, 111, 119], [98, 97, 100, 32, 100, 101, 115, 99, 114, 105, 112, 116, 111, 114], [116, 111, 111, 32, 109, 97, 110, 121], [98, 97, 100, 32, 110, 97, 109, 101], [116, 111, 111, 32, 100, 101, 101, 112], [98, 117, 115, 121], [105, 110, 118, 97, 108, 105, 100], [98, 97, 100, 32, 97, 114, 103, 117, 109, 101, 110, 116], [108, 105, 110, 101, 32, 116, 111, 111, 32, 108, 111, 110, 103], [117, 115, 97, 103, 101], [98, 97, 100, 32, 114, 101, 103, 117, 108, 97, 114, 32, 101, 120, 112, 114, 101, 115, 115, 105, 111, 110], [98, 97, 100, 32, 115, 99, 114, 105, 112, 116], [110, 111, 116, 32, 102, 111, 117, 110, 100], [115, 97, 109, 101, 32, 102, 105, 108, 101], [98, 97, 100, 32, 115, 121, 110, 116, 97, 120], [110, 111, 116, 32, 97, 32, 110, 117, 109, 98, 101, 114], [110, 111, 116, 32, 105, 110, 32, 111, 114, 100, 101, 114]]
def wordOf (e : Nat) : Bts := wordsL.getD e []
/-- A line about an error. -/
def diagOf (tag op : Bts) (e : Nat) : Bts := tag ++ [58, 32] ++ (if op = [] then [] else op ++ [58, 32]) ++ wordOf e ++ [10]

theorem Blk.there {w : World} {b : Nat} {cs : Array Value} {t : TypeId} (h : Blk w b cs t) (n : Nat) (hn : n ≤ cs.size) : w.there b 0 n := fun j hj => by
  rw [Nat.zero_add, h.cell j (Array.getElem?_eq_getElem (show j < cs.size by omega))]
  exact ⟨rfl, h.free j⟩

set_option maxRecDepth 100000 in
set_option maxHeartbeats 4000000 in
theorem word_any (e : Nat) (he : e < 27) (w : World) : Calls Tryz.prog 205 #[.int .i64 e] w fun x w' => x = .returned (strV (wordOf e)) ∧ Below w.heap.size w w' := by
  have h1 : decide ((e : Int) < 0) = false := by simp
  have h2 : decide ((27 : Int) ≤ e) = false := by simp; omega
  have h3 : (e : Int) < 27 := by omega
  have h4 : (0 : Int) ≤ e := by omega
  have hat : ((wordsL.map strV).toArray)[e]? = some (strV (wordOf e)) := by
    have hl : e < wordsL.length := he
    simp only [List.getElem?_toArray, List.getElem?_map]
    rw [List.getElem?_eq_getElem hl]
    simp [wordOf, List.getD_eq_getElem?_getD, List.getElem?_eq_getElem hl]
  have hinfo : (Tryz.prog.info? 396).map (·.size) = some 27 := by kernel_rfl
  have hone : (wordsL.map strV).toArray.all (·.oneCell') = true := all_oneCell_toArray (by intro v hv; obtain ⟨s, -, rfl⟩ := List.mem_map.1 hv; rfl)
  have HAT := Lib.hid hat
  have HI := Lib.hid hinfo
  have HONE := Lib.hid hone
  clear hat hinfo hone
  obtain ⟨s, hs⟩ : ∃ s, strV (wordOf e) = .string s := ⟨_, rfl⟩
  rw [hs] at HAT ⊢
  go_enter Tryz.func205, Tryz.ntmps205
  go_wp2_with (refine wpList_store_mid rfl 396 _ _ rfl w.heap.size 0 _ rfl rfl (Blk.there (Blk.new w _ _) _ (by decide)) HI.out HONE.out ?_; generalize hW : World.setCells _ w.heap.size 0 _ = w2; refine Hid.out ?_)
  have hb2 : Blk w2 w.heap.size (wordsL.map strV).toArray 396 := by rw [← hW]; exact Blk.setAll (Blk.new w _ _) rfl
  have hbel : Below w.heap.size w w2 := by rw [← hW]; exact (Kept.setCells (S := fun _ => False) (.inr (Nat.le_refl _)) _ 0 _ ((Kept.refl _ w).alloc _)).below
  clear hW
  have hc := hb2.cell e HAT.out
  have HBL := Lib.hid hbel
  clear hb2 hbel
  refine Lib.hid ?_
  go_wp2_with fail
  go_ret
  exact ⟨rfl, HBL.out⟩

/-- A text turned to bytes. -/
theorem conv_facts (l : Bts) (w : World) : ∃ c w1, (convert 9 33 (.string ⟨l.toArray⟩)).run Tryz.prog w = .ok (.slice (some ⟨w.heap.size, 0, none⟩) l.length c) w1 ∧ l.length ≤ c ∧ Below w.heap.size w w1 ∧ Bs w1 (some ⟨w.heap.size, 0, none⟩) l ∧ w.heap.size < w1.heap.size := by
  have hsz : (⟨l.toArray⟩ : ByteArray).size = l.length := by simp [ByteArray.size]
  have h := Lib.run_convert_string_bytes (P := Tryz.prog) w 9 33 5 ⟨l.toArray⟩ Tryz.underlying9 Tryz.underlying33 Tryz.underlying5
  rw [hsz] at h
  refine ⟨_, _, h, ?_, Lib.bytesWorld_below w 5 ⟨l.toArray⟩, fun hl => ⟨_, 0, rfl, fun i hi => ?_⟩, ?_⟩
  · exact grownCap_ge _ _ _ _
  · rw [Nat.zero_add]
    exact Lib.bytesWorld_cell w 5 ⟨l.toArray⟩ i (by rw [hsz]; exact hi)
  · simp [Lib.bytesWorld, World.freeze]

theorem str_app (a b : Bts) : (⟨a.toArray⟩ : ByteArray) ++ ⟨b.toArray⟩ = ⟨(a ++ b).toArray⟩ := by
  apply ByteArray.ext; simp

theorem wordOf_len (e : Nat) : (wordOf e).length ≤ 30 := by
  have h : ∀ x ∈ wordsL, x.length ≤ 30 := by decide
  unfold wordOf
  rw [List.getD_eq_getElem?_getD]
  cases hx : wordsL[e]? with
  | none => simp
  | some x => simpa using h x (List.mem_of_getElem? hx)

set_option maxRecDepth 100000 in
set_option maxHeartbeats 4000000 in
theorem diag_any (tag op : Bts) (e : Nat) (he : e < 27) (h1 : tag.length ≤ 1000000000) (h2 : op.length ≤ 1000000000) (w : World) :
    Calls Tryz.prog 151 #[.string ⟨tag.toArray⟩, .string ⟨op.toArray⟩, .int .i64 e] w fun x w' => ∃ v, x = .returned v ∧ Sl w' (fun g => w.heap.size ≤ g) v (diagOf tag op e) ∧ Below w.heap.size w w' := by
  have hw := word_any e he w
  unfold strV at hw
  have hwl := wordOf_len e
  by_cases hop : op = []
  · subst hop
    have hA : (9223372036854775807 < tag.length + 2 + (wordOf e).length) = False := by simp; omega
    have hB : (9223372036854775807 < tag.length + 2 + (wordOf e).length + 1) = False := by simp; omega
    go_enter Tryz.func151, Tryz.ntmps151
    go_wp2_with fail
    refine hw.mono ?_
    rintro x w1 ⟨rfl, hb1⟩
    obtain ⟨c, w2, hcv, hcl, hb2, hbs, hlt⟩ := conv_facts (diagOf tag [] e) w1
    have heq : (⟨tag.toArray⟩ : ByteArray) ++ ⟨#[58, 32]⟩ ++ ⟨#[]⟩ ++ ⟨(wordOf e).toArray⟩ ++ ⟨#[10]⟩ = ⟨(diagOf tag [] e).toArray⟩ := by
      apply ByteArray.ext; simp [diagOf]
    rw [← heq] at hcv
    have HBS := Lib.hid hbs
    have HB2 := Lib.hid hb2
    have HB1 := Lib.hid hb1
    clear hbs hb1 hb2 heq hw
    go_wp2_with fail
    go_ret
    refine ⟨_, rfl, ?_, HB1.out.trans (HB2.out.mono HB1.out.size)⟩
    have hpos : 0 < (diagOf tag [] e).length := by simp [diagOf]; omega
    obtain ⟨b, o, hq, hc⟩ := HBS.out hpos
    injection hq with hq
    injection hq with hq1 hq2
    subst hq1 hq2
    exact .inr ⟨_, 0, c, rfl, hcl, hlt, HB1.out.size, hc⟩
  · have hne : ((⟨op.toArray⟩ : ByteArray) == ⟨#[]⟩) = false := by rw [str_nil]; cases op with | nil => exact absurd rfl hop | cons _ _ => rfl
    have hem : op.isEmpty = false := by cases op with | nil => exact absurd rfl hop | cons _ _ => rfl
    have hA : (9223372036854775807 < tag.length + 2 + (op.length + 2) + (wordOf e).length) = False := by simp; omega
    have hB : (9223372036854775807 < tag.length + 2 + (op.length + 2) + (wordOf e).length + 1) = False := by simp; omega
    go_enter Tryz.func151, Tryz.ntmps151
    go_wp2_with fail
    refine hw.mono ?_
    rintro x w1 ⟨rfl, hb1⟩
    obtain ⟨c, w2, hcv, hcl, hb2, hbs, hlt⟩ := conv_facts (diagOf tag op e) w1
    have heq : (⟨tag.toArray⟩ : ByteArray) ++ ⟨#[58, 32]⟩ ++ (⟨op.toArray⟩ ++ ⟨#[58, 32]⟩) ++ ⟨(wordOf e).toArray⟩ ++ ⟨#[10]⟩ = ⟨(diagOf tag op e).toArray⟩ := by
      apply ByteArray.ext; simp [diagOf, hop]
    rw [← heq] at hcv
    have HBS := Lib.hid hbs
    have HB2 := Lib.hid hb2
    have HB1 := Lib.hid hb1
    clear hbs hb1 hb2 heq hw
    go_wp2_with fail
    go_ret
    refine ⟨_, rfl, ?_, HB1.out.trans (HB2.out.mono HB1.out.size)⟩
    have hpos : 0 < (diagOf tag op e).length := by simp [diagOf]; omega
    obtain ⟨b, o, hq, hc⟩ := HBS.out hpos
    injection hq with hq
    injection hq with hq1 hq2
    subst hq1 hq2
    exact .inr ⟨_, 0, c, rfl, hcl, hlt, HB1.out.size, hc⟩

end Go.Proofs.YtjdcjdclipbjhaaGreatDoor

/-
  The walks of strings.NewReplacer and of the replacer's build, of blanks by commas. No condition beside the cells.
-/
namespace Go.Proofs.YtjdcjdclipbjhaaGreatDoor.Rp
open Go.RowKit Go.Shelf

/-- What the replacer's table holds. -/
def rep (c : UInt8) : UInt8 := if c = 32 ∨ c = 9 then 44 else c
def olds : List Bts := [[32], [44], [9], [44]]

theorem info_string : (Tryz.prog.info? 9).map (fun i => (i.zero, i.size, i.bytes)) = some (some (.string ByteArray.empty), 1, 16) := by kernel_rfl

set_option maxRecDepth 100000 in
set_option maxHeartbeats 4000000 in
theorem newRep_any (b o c : Nat) (w : World) (hc : ∀ i, i < 4 → w.cell? ⟨b, o + i, none⟩ = some (strV (olds.getD i []))) :
    Calls Tryz.prog 15 #[.slice (some ⟨b, o, none⟩) 4 c] w fun e w' => ∃ r v, e = .returned (.pointer (some ⟨r, 0, none⟩)) ∧ w.heap.size ≤ r ∧ Blk w' r #[.int .u32 0, .int .i32 0, .int .u32 0, .nilIface, v] 95 ∧ w'.ownsRow w.heap.size 9 1 v 4 (olds.map strV) ∧ Below w.heap.size w w' := by
  obtain ⟨i0, hi, hz0, hz1, hz2⟩ := info_parts info_string
  have HN : Hid (∀ j u, (olds.map strV)[j]? = some u → w.cell? ((⟨b, o, none⟩ : Addr).add j) = some u) := Lib.hid (by
    intro j u hu
    have hj : j < 4 := by
      rcases Nat.lt_or_ge j 4 with h | h
      · exact h
      · rw [List.getElem?_eq_none (by simpa [olds] using h)] at hu; cases hu
    rw [show ((⟨b, o, none⟩ : Addr).add j) = ⟨b, o + j, none⟩ by simp only [Addr.add]; split <;> simp_all, hc j hj]
    have hj2 : j < olds.length := hj
    rw [List.getElem?_map, List.getElem?_eq_getElem hj2] at hu
    rw [List.getD_eq_getElem?_getD, List.getElem?_eq_getElem hj2]
    exact hu)
  clear hc
  go_enter Tryz.func15, Tryz.ntmps15
  go_wp2_with (at_builtin; refine wpList_append_own _ rfl _ _ 37 rfl w.heap.size 9 i0 (.string ByteArray.empty) 1 16 Tryz.underlying37 hi hz0 hz1 hz2 rfl (by decide) (.slice none 0 0) 0 [] rfl (World.ownsRow_nil _ _ _ _) ⟨b, o, none⟩ 4 c (olds.map strV) rfl rfl HN.out (by simp [olds, strV, Value.oneCell']) (by decide) (by decide) (Nat.le_refl _) ?_; intro v w1 hown hgrow _; obtain ⟨gg, cp, rfl⟩ := own_slice (n := 3) hown)
  have hb1 : Below w.heap.size w w1 := (Below.refl _ w).grown hgrow (Nat.le_refl _) (fun j hj => by cases hj)
  have hown2 : w1.ownsRow w.heap.size 9 1 (.slice (some ⟨gg, 0, none⟩) 4 cp) 4 (olds.map strV) := by simpa using hown
  go_ret
  exact ⟨_, rfl, hb1.size, _, Blk.new _ _ _, own_kept hown2 (Kept.of_below (S := fun _ => False) ((Below.refl _ w1).alloc (Nat.le_refl _) _)) fun _ _ h => h, hb1.alloc hb1.size _⟩

/-- The table, so many places of it filled. -/
def tabN (k : Nat) : Array Value := ((List.range 256).map fun j => Value.int .u8 (if j < k then (j : Int) else 0)).toArray
def tabR : Array Value := ((List.range 256).map fun j => Value.int .u8 ((rep (UInt8.ofNat j)).toNat : Int)).toArray
theorem tabN_size (k : Nat) : (tabN k).size = 256 := by simp [tabN]
theorem tabN_at (k j : Nat) (h : j < 256) : (tabN k)[j]? = some (.int .u8 (if j < k then (j : Int) else 0)) := by
  unfold tabN; simp [h]
theorem tabN_set (k : Nat) (hk : k < 256) : (tabN k).setIfInBounds k (.int .u8 k) = tabN (k + 1) := by
  apply Array.ext_getElem?
  intro i
  by_cases hi : i < 256
  · by_cases e : i = k
    · subst e
      rw [Array.getElem?_setIfInBounds_self_of_lt (by rw [tabN_size]; exact hi), tabN_at _ _ hi, if_pos (by omega)]
    · rw [Array.getElem?_setIfInBounds_ne (fun h => e h.symm), tabN_at _ _ hi, tabN_at _ _ hi]
      by_cases h1 : i < k
      · rw [if_pos h1, if_pos (by omega)]
      · rw [if_neg h1, if_neg (by omega)]
  · rw [Array.getElem?_eq_none (by simp [tabN_size]; omega), Array.getElem?_eq_none (by simp [tabN_size]; omega)]
theorem tabR_at (j : Nat) (h : j < 256) : tabR[j]? = some (.int .u8 ((rep (UInt8.ofNat j)).toNat : Int)) := by
  unfold tabR; simp [h]
theorem tabR_size : tabR.size = 256 := by simp [tabR]
theorem tab_end : ((tabN 256).setIfInBounds 9 (.int .u8 44)).setIfInBounds 32 (.int .u8 44) = tabR := by
  apply Array.ext_getElem?
  intro i
  by_cases hi : i < 256
  · rw [tabR_at i hi]
    by_cases h1 : i = 32
    · subst h1
      rw [Array.getElem?_setIfInBounds_self_of_lt (by simp [tabN_size])]; rfl
    · rw [Array.getElem?_setIfInBounds_ne (fun h => h1 h.symm)]
      by_cases h2 : i = 9
      · subst h2
        rw [Array.getElem?_setIfInBounds_self_of_lt (by simp [tabN_size])]; rfl
      · rw [Array.getElem?_setIfInBounds_ne (fun h => h2 h.symm), tabN_at _ _ hi, if_pos hi]
        have e1 : (UInt8.ofNat i).toNat = i := UInt8.toNat_ofNat_of_lt' hi
        have e2 : rep (UInt8.ofNat i) = UInt8.ofNat i := by
          unfold rep
          rw [if_neg]
          rintro (h | h)
          · exact h1 (by rw [← e1, h]; rfl)
          · exact h2 (by rw [← e1, h]; rfl)
        rw [e2, e1]
  · rw [Array.getElem?_eq_none (by simp [tabN_size]; omega), Array.getElem?_eq_none (by rw [tabR_size]; omega)]

set_option maxRecDepth 100000 in
set_option maxHeartbeats 8000000 in
theorem build_any (r : Nat) (x0 x1 x2 x3 v : Value) (B : Nat) (w : World) (hr : Blk w r #[x0, x1, x2, x3, v] 95) (ho : w.ownsRow B 9 1 v 4 (olds.map strV)) :
    Calls Tryz.prog 62 #[.pointer (some ⟨r, 0, none⟩)] w fun e w' => ∃ b, e = .returned (.iface 248 (.pointer (some ⟨b, 0, none⟩))) ∧ w.heap.size ≤ b ∧ Blk w' b tabR 247 ∧ Below w.heap.size w w' := by
  obtain ⟨g, c, rfl⟩ := own_slice (n := 3) ho
  have hglt := (ho.lt g rfl).2
  have r4 := hr.cell 4 (v := .slice (some ⟨g, 0, none⟩) 4 c) rfl
  have hcap : (4 : Nat) ≤ c := by
    rcases ho.2 with ⟨h, -⟩ | ⟨g', cap, cur, e, -, -, hc, -⟩
    · cases h
    · injection e with _ _ e; omega
  have a0 := ho.cellAt 0 (by decide)
  have a1 := ho.cellAt 1 (by decide)
  have a2 := ho.cellAt 2 (by decide)
  have a3 := ho.cellAt 3 (by decide)
  simp only [olds, strV, List.map_cons, List.map_nil, List.getElem?_cons_zero, List.getElem?_cons_succ] at a0 a1 a2 a3
  have H0 := Lib.hid a0
  have H1 := Lib.hid a1
  have H2 := Lib.hid a2
  have H3 := Lib.hid a3
  clear hr ho
  have hinfo : (Tryz.prog.info? 247).map (·.size) = some 256 := by kernel_rfl
  have hone : (Tryz.zeroCells247).all (·.oneCell') = true := by kernel_rfl
  have hzero : Tryz.zeroCells247 = tabN 0 := by kernel_rfl
  have HI := Lib.hid hinfo
  have HONE := Lib.hid hone
  have HZ := Lib.hid hzero
  clear hinfo hone hzero
  go_enter Tryz.func62, Tryz.ntmps62
  go_wp2_with fail
  go_loopw [4, 5] (fun x4 i wr => x4 = .bool true ∧ (i = .int .i64 0 ∨ i = .int .i64 2 ∨ i = .int .i64 4) ∧ wr = w) (fun _ i _ => 4 - (intOf i).toNat)
  case atStart => exact ⟨rfl, .inl rfl, rfl⟩
  case round =>
    obtain ⟨rfl, h, rfl⟩ := hrel
    rcases h with rfl | rfl | rfl
    · go_wp2_with fail
      go_roundw
      case rel => exact ⟨rfl, .inr (.inl rfl), by first | rfl | trivial⟩
      case measure => simp [intOf]
    · go_wp2_with fail
      go_roundw
      case rel => exact ⟨rfl, .inr (.inr rfl), by first | rfl | trivial⟩
      case measure => simp [intOf]
    · obtain ⟨wo, hwo⟩ : ∃ wo, wo = wr := ⟨_, rfl⟩
      subst hwo
      go_wp2_with (refine wpList_store_mid rfl 247 _ _ rfl wo.heap.size 0 _ rfl rfl (Blk.there (Blk.new wo _ _) _ (by decide)) HI.out HONE.out ?_; generalize hW : World.setCells _ wo.heap.size 0 _ = w2; refine Hid.out ?_)
      have hb2 : Blk w2 wo.heap.size (tabN 0) 247 := by rw [← hW, ← HZ.out]; exact Blk.setAll (Blk.new wo _ _) rfl
      have hbel : Below wo.heap.size wo w2 := by rw [← hW]; exact (Kept.setCells (S := fun _ => False) (.inr (Nat.le_refl _)) _ 0 _ ((Kept.refl _ wo).alloc _)).below
      clear hW
      have HB2 := Lib.hid hb2
      have HBL := Lib.hid hbel
      clear hb2 hbel
      refine Lib.hid ?_
      go_wp2_with fail
      go_loopw [7, 61] (fun _x7 x61 wr => ∃ k : Nat, k ≤ 256 ∧ x61 = .int .i64 k ∧ Hid (Blk wr wo.heap.size (tabN k) 247) ∧ Hid (Below wo.heap.size wo wr)) (fun _ x61 _ => 256 - (intOf x61).toNat)
      case atStart => exact ⟨0, Nat.zero_le _, rfl, HB2, HBL⟩
      case round =>
        clear HB2 HBL
        obtain ⟨k, hk, rfl, HB, HL⟩ := hrel
        by_cases hlt : k < 256
        · have e1 : decide ((k : Int) < 256) = true := by simp; omega
          have e2 : (k : Int) % 256 = k := by omega
          have c1 := HB.out.cell k (tabN_at k k hlt)
          have c2 := HB.out.free k
          have e3 : (0 : Int) ≤ k := by omega
          have e4 : (k : Int) < 256 := by omega
          go_wp2_with fail
          go_roundw
          case rel => exact ⟨k + 1, by omega, by go_num, Lib.hid (by rw [← tabN_set k hlt]; exact HB.out.set k _), Lib.hid (((Kept.of_below (S := fun _ => False) HL.out).setCell (.inr (Nat.le_refl _)) k _).below)⟩
          case measure => simp [intOf]; omega
        · obtain ⟨k256, hk2⟩ : ∃ k256 : Nat, k256 = k ∧ k256 = 256 := ⟨k, rfl, by omega⟩
          have HB256 : Hid (Blk wr wo.heap.size (tabN 256) 247) := by
            have : k = 256 := by omega
            rw [this] at HB; exact HB
          have e1 : decide ((k : Int) < 256) = false := by simp; omega
          obtain ⟨w5, hw5⟩ : ∃ w5, w5 = wr := ⟨_, rfl⟩
          subst hw5
          have b0 := Lib.hid ((HL.out.cell (p := ⟨g, 0, none⟩) hglt).trans H0.out)
          have b1 := Lib.hid ((HL.out.cell (p := ⟨g, 1, none⟩) hglt).trans H1.out)
          have b2 := Lib.hid ((HL.out.cell (p := ⟨g, 2, none⟩) hglt).trans H2.out)
          have b3 := Lib.hid ((HL.out.cell (p := ⟨g, 3, none⟩) hglt).trans H3.out)
          clear a0 a1 a2 a3 r4 HB hk2
          go_wp2_with fail
          go_loopw [8, 9, 10] (fun x8 _x9 _x10 wr => ((x8 = .int .i64 2 ∧ Hid (Blk wr wo.heap.size (tabN 256) 247)) ∨ (x8 = .int .i64 0 ∧ Hid (Blk wr wo.heap.size ((tabN 256).setIfInBounds 9 (.int .u8 44)) 247)) ∨ (x8 = .int .i64 (-2) ∧ Hid (Blk wr wo.heap.size tabR 247))) ∧ Hid (Below wo.heap.size wo wr)) (fun x8 _ _ _ => (intOf x8 + 2).toNat)
          case atStart => exact ⟨.inl ⟨rfl, HB256⟩, HL⟩
          case round =>
            clear HB256 HL b0 b1 b2 b3
            obtain ⟨h, HL⟩ := hrel
            have a0 := (HL.out.cell (p := ⟨g, 0, none⟩) hglt).trans H0.out
            have a1 := (HL.out.cell (p := ⟨g, 1, none⟩) hglt).trans H1.out
            have a2 := (HL.out.cell (p := ⟨g, 2, none⟩) hglt).trans H2.out
            have a3 := (HL.out.cell (p := ⟨g, 3, none⟩) hglt).trans H3.out
            have i1 : ∀ h, (⟨#[9]⟩ : ByteArray)[0]'h = 9 := fun _ => rfl
            have i2 : ∀ h, (⟨#[32]⟩ : ByteArray)[0]'h = 32 := fun _ => rfl
            have i3 : ∀ h, (⟨#[44]⟩ : ByteArray)[0]'h = 44 := fun _ => rfl
            rcases h with ⟨rfl, HB⟩ | ⟨rfl, HB⟩ | ⟨rfl, HB⟩
            · have c1 := HB.out.cell 9 (tabN_at 256 9 (by decide))
              have c2 := HB.out.free 9
              go_wp2_with fail
              go_roundw
              case rel => exact ⟨.inr (.inl ⟨by go_num, Lib.hid (HB.out.set 9 _)⟩), Lib.hid (((Kept.of_below (S := fun _ => False) HL.out).setCell (.inr (Nat.le_refl _)) 9 _).below)⟩
              case measure => simp [intOf]
            · have c1 := HB.out.cell 32 (by rw [Array.getElem?_setIfInBounds_ne (by decide)]; exact tabN_at 256 32 (by decide))
              have c2 := HB.out.free 32
              go_wp2_with fail
              go_roundw
              case rel => exact ⟨.inr (.inr ⟨by go_num, Lib.hid (by rw [← tab_end]; exact HB.out.set 32 _)⟩), Lib.hid (((Kept.of_below (S := fun _ => False) HL.out).setCell (.inr (Nat.le_refl _)) 32 _).below)⟩
              case measure => simp [intOf]
            · go_wp2_with fail
              go_ret
              exact ⟨_, rfl, Nat.le_refl _, HB.out, HL.out⟩

end Go.Proofs.YtjdcjdclipbjhaaGreatDoor.Rp

/-
  The walk of a replacer's Replace: blanks by commas. Condition: lengths.
-/
namespace Go.Proofs.YtjdcjdclipbjhaaGreatDoor.Rp
open Go.RowKit Go.Shelf

/-- Bytes that lie in a block and may be turned. -/
def RowB (W : World) (g : Nat) (l : Bts) : Prop := ∀ j, j < l.length → W.cell? ⟨g, j, none⟩ = some (.int .u8 (l.getD j 0).toNat) ∧ W.frozen? ⟨g, j, none⟩ = false
theorem RowB.set {W : World} {g : Nat} {l : Bts} (h : RowB W g l) (k : Nat) (hk : k < l.length) (c : UInt8) : RowB (W.setCell ⟨g, k, none⟩ (.int .u8 c.toNat)) g (l.set k c) := fun j hj => by
  rw [List.length_set] at hj
  refine ⟨?_, by rw [World.frozen?_setCell]; exact (h j hj).2⟩
  by_cases e : j = k
  · subst e
    rw [World.cell?_setCell_same _ _ _ (h j hj).1]
    simp [List.getD_eq_getElem?_getD, hj]
  · rw [World.cell?_setCell_other _ ⟨g, k, none⟩ ⟨g, j, none⟩ _ (by simp <;> omega), (h j hj).1]
    have : (l.set k c).getD j 0 = l.getD j 0 := by
      rw [List.getD_eq_getElem?_getD, List.getD_eq_getElem?_getD, List.getElem?_set_ne (Ne.symm e)]
    rw [this]
theorem RowB.bs {W : World} {g : Nat} {l : Bts} (h : RowB W g l) : Bs W (some ⟨g, 0, none⟩) l := fun _ => ⟨g, 0, rfl, fun i hi => by rw [Nat.zero_add]; exact (h i hi).1⟩
theorem conv_row (l : Bts) (w : World) : ∃ c w1, (convert 9 33 (.string ⟨l.toArray⟩)).run Tryz.prog w = .ok (.slice (some ⟨w.heap.size, 0, none⟩) l.length c) w1 ∧ l.length ≤ c ∧ Below w.heap.size w w1 ∧ RowB w1 w.heap.size l := by
  have hsz : (⟨l.toArray⟩ : ByteArray).size = l.length := by simp [ByteArray.size]
  have h := Lib.run_convert_string_bytes (P := Tryz.prog) w 9 33 5 ⟨l.toArray⟩ Tryz.underlying9 Tryz.underlying33 Tryz.underlying5
  rw [hsz] at h
  refine ⟨_, _, h, grownCap_ge _ _ _ _, Lib.bytesWorld_below w 5 ⟨l.toArray⟩, fun j hj => ⟨Lib.bytesWorld_cell w 5 ⟨l.toArray⟩ j (by rw [hsz]; exact hj), ?_⟩⟩
  unfold World.frozen?
  have hs2 : l.length ≤ (Lib.bytesCells w 5 ⟨l.toArray⟩).size := by simp [Lib.bytesCells]
  simp only [Lib.bytesWorld_at_new]
  simp
  omega

theorem map_step (s : Bts) (k : Nat) (hk : k < s.length) (c : UInt8) (hc : rep s[k] = c) : ((s.take k).map rep ++ s.drop k).set k c = (s.take (k + 1)).map rep ++ s.drop (k + 1) := by
  have hl : ((s.take k).map rep).length = k := by rw [List.length_map, List.length_take]; omega
  rw [List.drop_eq_getElem_cons hk, List.take_succ_eq_append_getElem hk, List.map_append, List.append_assoc, List.set_append_right _ _ (by omega), hl, Nat.sub_self, List.set_cons_zero]
  rw [← hc]
  rfl
theorem map_still (s : Bts) (k : Nat) (hk : k < s.length) (hc : rep s[k] = s[k]) : (s.take k).map rep ++ s.drop k = (s.take (k + 1)).map rep ++ s.drop (k + 1) := by
  rw [List.drop_eq_getElem_cons hk, List.take_succ_eq_append_getElem hk, List.map_append, List.append_assoc]
  simp [hc]

set_option maxRecDepth 100000 in
set_option maxHeartbeats 4000000 in
theorem byteRep_any (b : Nat) (s : Bts) (hl : s.length < 1073741824) (w : World) (hb : Blk w b tabR 247) :
    Calls Tryz.prog 352 #[.pointer (some ⟨b, 0, none⟩), .string ⟨s.toArray⟩] w fun e w' => e = .returned (.string ⟨(s.map rep).toArray⟩) ∧ Below w.heap.size w w' := by
  have HB := Lib.hid hb
  obtain ⟨R, hR⟩ : ∃ R, s.map rep = R := ⟨_, rfl⟩
  rw [hR]
  have HR := Lib.hid hR
  have qn : ∀ (w : World) (n c n' c' : Nat), (binOp .eql 33 (.slice none n c) (.slice none n' c')).run Tryz.prog w = .ok (.bool true) w := fun w n c n' c' => Lib.run_eql_slice_nil w _ _ none n c n' c' Tryz.underlying33
  have qs : ∀ (w : World) (a : Addr) (n c n' c' : Nat), (binOp .eql 33 (.slice (some a) n c) (.slice none n' c')).run Tryz.prog w = .ok (.bool false) w := fun w a n c n' c' => Lib.run_eql_slice_nil w _ _ (some a) n c n' c' Tryz.underlying33
  clear hb hR
  go_enter Tryz.func352, Tryz.ntmps352
  go_wp2_with fail
  go_loopw [5, 6, 7] (fun x5 x6 _x7 wr => ∃ k : Nat, k ≤ s.length ∧ x6 = .int .i64 k ∧ ((x5 = .slice none 0 0 ∧ wr = w ∧ Hid ((s.take k).map rep = s.take k)) ∨ (∃ c, x5 = .slice (some ⟨w.heap.size, 0, none⟩) s.length c ∧ s.length ≤ c ∧ Hid (RowB wr w.heap.size ((s.take k).map rep ++ s.drop k)) ∧ Hid (Below w.heap.size w wr)))) (fun _ x6 _ _ => s.length - (intOf x6).toNat)
  case atStart => exact ⟨0, Nat.zero_le _, rfl, .inl ⟨rfl, rfl, Lib.hid rfl⟩⟩
  case round =>
    obtain ⟨k, hk, rfl, hst⟩ := hrel
    by_cases hlt : k < s.length
    · obtain ⟨x, hx, i0⟩ : ∃ x, s[k] = x ∧ ∀ h, (⟨s.toArray⟩ : ByteArray)[k]'h = x := ⟨s[k], rfl, fun _ => rfl⟩
      have g1 : decide ((k : Int) < s.length) = true := by simp; omega
      have g2 : (0 : Int) ≤ k := by omega
      have g3 : (k : Int) < s.length := by omega
      have HX := Lib.hid hx
      clear hx
      have hxb := u8_bd x
      have hxn : x.toNat < 256 := x.toNat_lt
      by_cases hsp : x = 32 ∨ x = 9
      · have hrx : rep x = 44 := by unfold rep; rw [if_pos hsp]
        have HRX := Lib.hid hrx
        have hx1 : ∃ v : Nat, x.toNat = v ∧ v < 256 ∧ (v : Int) ≠ 44 ∧ (tabR[v]? = some (.int .u8 44)) := by
          refine ⟨x.toNat, rfl, hxn, ?_, ?_⟩
          · rcases hsp with rfl | rfl <;> decide
          · rw [tabR_at _ hxn, UInt8.ofNat_toNat, hrx]; rfl
        obtain ⟨v, hv, hv1, hv2, hv3⟩ := hx1
        have q1 : ((44 : Int) != (v : Int)) = true := by simp; omega
        have q2 : (0 : Int) ≤ v := by omega
        have q3 : (v : Int) < 256 := by omega
        have HV3 := Lib.hid hv3
        clear hsp hrx hv3
        rcases hst with ⟨rfl, rfl, HM⟩ | ⟨c, rfl, hc, HRW, HBL⟩
        · have c1 := HB.out.cell v HV3.out
          obtain ⟨c, w1, hcv, hcl, hb1, hrw⟩ := conv_row s wr
          have hrw2 : RowB w1 wr.heap.size ((s.take k).map rep ++ s.drop k) := by rw [HM.out, List.take_append_drop]; exact hrw
          have c2 := (HB.out.keep hb1 HB.out.lt).cell v HV3.out
          have hlen : k < ((s.take k).map rep ++ s.drop k).length := by simp; omega
          obtain ⟨c3, c4⟩ := hrw2 k hlen
          have hset := hrw2.set k hlen 44
          rw [map_step s k hlt 44 (by rw [HX.out]; exact HRX.out)] at hset
          have HSET := Lib.hid hset
          have HB1 := Lib.hid hb1
          clear hb1 hrw hrw2 hset
          go_wp2_with fail
          go_roundw
          case rel => exact ⟨k + 1, by omega, by go_num, .inr ⟨c, rfl, hcl, HSET, Lib.hid (((Kept.of_below (S := fun _ => False) HB1.out).setCell (.inr (Nat.le_refl _)) k _).below)⟩⟩
          case measure => simp [intOf]; omega
        · have c2 := (HB.out.keep HBL.out HB.out.lt).cell v HV3.out
          have hlen : k < ((s.take k).map rep ++ s.drop k).length := by simp; omega
          obtain ⟨c3, c4⟩ := HRW.out k hlen
          have hset := HRW.out.set k hlen 44
          rw [map_step s k hlt 44 (by rw [HX.out]; exact HRX.out)] at hset
          have HSET := Lib.hid hset
          clear hset
          go_wp2_with fail
          go_roundw
          case rel => exact ⟨k + 1, by omega, by go_num, .inr ⟨c, rfl, hc, HSET, Lib.hid (((Kept.of_below (S := fun _ => False) HBL.out).setCell (.inr (Nat.le_refl _)) k _).below)⟩⟩
          case measure => simp [intOf]; omega
      · have hrx : rep x = x := by unfold rep; rw [if_neg hsp]
        have HRX := Lib.hid hrx
        have hv3 : tabR[x.toNat]? = some (.int .u8 x.toNat) := by rw [tabR_at _ hxn, UInt8.ofNat_toNat, hrx]
        have HV3 := Lib.hid hv3
        clear hsp hrx hv3
        rcases hst with ⟨rfl, rfl, HM⟩ | ⟨c, rfl, hc, HRW, HBL⟩
        · have c1 := HB.out.cell x.toNat HV3.out
          go_wp2_with fail
          go_roundw
          case rel => exact ⟨k + 1, by omega, by go_num, .inl ⟨rfl, by first | rfl | trivial, Lib.hid (by rw [List.take_succ_eq_append_getElem hlt, List.map_append, HM.out]; simp [HX.out, HRX.out])⟩⟩
          case measure => simp [intOf]; omega
        · have c2 := (HB.out.keep HBL.out HB.out.lt).cell x.toNat HV3.out
          go_wp2_with fail
          go_roundw
          case rel => exact ⟨k + 1, by omega, by go_num, .inr ⟨c, rfl, hc, Lib.hid (by rw [← map_still s k hlt (by rw [HX.out]; exact HRX.out)]; exact HRW.out), HBL⟩⟩
          case measure => simp [intOf]; omega
    · obtain rfl : k = s.length := by omega
      have g1 : decide ((s.length : Int) < s.length) = false := by simp
      rcases hst with ⟨rfl, rfl, HM⟩ | ⟨c, rfl, hc, HRW, HBL⟩
      · have hf : s = R := by rw [← HR.out]; have := HM.out; rw [List.take_of_length_le (Nat.le_refl _)] at this; exact this.symm
        have HF := Lib.hid hf
        clear hf
        go_wp2_with fail
        go_ret
        exact ⟨by rw [← HF.out]; rfl, Below.refl _ _⟩
      · have hbs : Bs wr (some ⟨w.heap.size, 0, none⟩) R := by
          have := HRW.out.bs
          rw [List.take_of_length_le (Nat.le_refl _), List.drop_of_length_le (Nat.le_refl _), List.append_nil, HR.out] at this
          exact this
        have hRl : R.length = s.length := by rw [← HR.out]; simp
        have hcv := run_str hbs c
        rw [hRl] at hcv
        clear hbs
        go_wp2_with fail
        go_ret
        exact ⟨rfl, HBL.out⟩

end Go.Proofs.YtjdcjdclipbjhaaGreatDoor.Rp

/-
  The walks of a replacer's first Replace: sync.Once builds it, its table turns blanks to commas. Condition: lengths.
-/
namespace Go.Proofs.YtjdcjdclipbjhaaGreatDoor.Rp
open Go.RowKit Go.Shelf

set_option maxRecDepth 100000 in
set_option maxHeartbeats 1600000 in
theorem once_any (r : Nat) (x0 x1 x2 x3 v : Value) (B : Nat) (w : World) (hr : Blk w r #[x0, x1, x2, x3, v] 95) (ho : w.ownsRow B 9 1 v 4 (olds.map strV)) :
    Calls Tryz.prog 28 #[.pointer (some ⟨r, 0, none⟩)] w fun e w' => e = .returned (.tuple #[]) ∧ ∃ b, w.heap.size ≤ b ∧ Blk w' r #[x0, x1, x2, .iface 248 (.pointer (some ⟨b, 0, none⟩)), .slice none 0 0] 95 ∧ Blk w' b tabR 247 ∧ Kept (fun j => j = r) w w' := by
  have hbd := build_any r x0 x1 x2 x3 v B w hr ho
  have HR := Lib.hid hr
  clear hr ho
  go_enter Tryz.func28, Tryz.ntmps28
  go_wp2_with fail
  refine hbd.mono ?_
  rintro e w1 ⟨b, rfl, hbn, hb, hbl⟩
  clear hbd
  have hr1 := HR.out.keep hbl HR.out.lt
  have c3 := hr1.cell 3 (v := x3) rfl
  have f3 := hr1.free 3
  have hr2 := hr1.set 3 (.iface 248 (.pointer (some ⟨b, 0, none⟩)))
  have c4 := hr2.cell 4 (v := v) rfl
  have f4 := hr2.free 4
  have hr3 := hr2.set 4 (.slice none 0 0)
  have hne : b ≠ r := by have := HR.out.lt; omega
  have hk : Kept (fun j => j = r) w ((w1.setCell ⟨r, 3, none⟩ (.iface 248 (.pointer (some ⟨b, 0, none⟩)))).setCell ⟨r, 4, none⟩ (.slice none 0 0)) := ((Kept.of_below (S := fun j => j = r) hbl).setCell (.inl rfl) 3 _).setCell (.inl rfl) 4 _
  have hb3 : Blk ((w1.setCell ⟨r, 3, none⟩ (.iface 248 (.pointer (some ⟨b, 0, none⟩)))).setCell ⟨r, 4, none⟩ (.slice none 0 0)) b tabR 247 := (hb.setOther (a := ⟨r, 3, none⟩) hne _).setOther (a := ⟨r, 4, none⟩) hne _
  have HF := Lib.hid (And.intro hr3 (And.intro hb3 hk))
  have HBN := Lib.hid hbn
  clear hr1 hr2 hr3 hb hbl hk hb3 hbn
  go_wp2_with fail
  first | go_end0 | skip
  exact ⟨rfl, b, HBN.out, HF.out.1, HF.out.2.1, HF.out.2.2⟩

set_option maxRecDepth 100000 in
set_option maxHeartbeats 1600000 in
theorem slow_any (r : Nat) (v : Value) (B : Nat) (w : World) (hr : Blk w r #[.int .u32 0, .int .i32 0, .int .u32 0, .nilIface, v] 95) (ho : w.ownsRow B 9 1 v 4 (olds.map strV)) (hv : ∀ k, v.ownBlock = some k → ¬ k = r) :
    Calls Tryz.prog 61 #[.pointer (some ⟨r, 0, none⟩), .func (.func 28) #[.pointer (some ⟨r, 0, none⟩)] #[]] w fun e w' => e = .returned (.tuple #[]) ∧ ∃ b, w.heap.size ≤ b ∧ Blk w' r #[.int .u32 1, .int .i32 0, .int .u32 0, .iface 248 (.pointer (some ⟨b, 0, none⟩)), .slice none 0 0] 95 ∧ Blk w' b tabR 247 ∧ Kept (fun j => j = r) w w' := by
  have hent : ∀ (args : Array Value) (w : World), (callFunc 28 args).run Tryz.prog w = .ok (.enter 28 args) w := enters_of Tryz.func28 (by kernel_rfl) rfl
  have hlk := lock_free ⟨r, 1, none⟩ w (hr.cell 1 rfl) (hr.free 1)
  obtain ⟨w1, hw1⟩ : ∃ w1, w.setCell ⟨r, 1, none⟩ (.int .i32 1) = w1 := ⟨_, rfl⟩
  have hr1 : Blk w1 r #[.int .u32 0, .int .i32 1, .int .u32 0, .nilIface, v] 95 := by rw [← hw1]; exact hr.set 1 _
  have hk1 : Kept (fun j => j = r) w w1 := by rw [← hw1]; exact (Kept.refl (fun j => j = r) w).setCell (.inl rfl) 1 _
  have ho1 := own_kept ho hk1 hv
  have hl := load_any ⟨r, 0, none⟩ 0 w1 (hr1.cell 0 rfl)
  have hon := once_any r _ _ _ _ v B w1 hr1 ho1
  have hnot : ∀ (x : Bool) (w : World), (Op.unary .not (.bool x)).run Tryz.prog w = .ok (.bool (!x)) w := fun _ _ => rfl
  rw [hw1] at hlk
  have HK1 := Lib.hid hk1
  clear hr ho hw1 hr1 hk1 ho1
  go_enter_defers Tryz.func61, Tryz.ntmps61
  go_wp2_with fail
  refine hlk.mono ?_
  rintro e w' ⟨rfl, rfl⟩
  clear hlk
  go_wp2_with fail
  refine hl.mono ?_
  rintro e w' ⟨rfl, rfl⟩
  clear hl
  go_wp2_with fail
  refine hon.mono ?_
  rintro e w2 ⟨rfl, b, hbn, hr2, hb2, hk2⟩
  clear hon
  have h3 : Blk (w2.drew.setCell ⟨r, 0, none⟩ (.int .u32 1)) r #[.int .u32 1, .int .i32 1, .int .u32 0, .iface 248 (.pointer (some ⟨b, 0, none⟩)), .slice none 0 0] 95 := hr2.drew.set 0 _
  have hne : b ≠ r := by
    intro e
    have h5 : Blk w2 b _ _ := hb2
    rw [e] at h5
    have := h5.symm.trans hr2
    simp at this
  go_wp2_with fail
  refine leaves_cons (f := 116) (args := #[.pointer (some ⟨r, 0, none⟩), .bool true]) (by simp) (by simp [go_sem]) ?_
  refine (store_deferred ⟨r, 0, none⟩ (.int .u32 0) .returning _ (hr2.cell 0 rfl) (hr2.free 0)).mono ?_
  rintro e u' w3 ⟨rfl, rfl, rfl⟩
  refine leaves_cons (f := 115) (args := #[.pointer (some ⟨r, 1, none⟩)]) (by simp [settle]) (by simp [go_sem]) ?_
  refine (unlock_deferred ⟨r, 1, none⟩ _ _ (h3.cell 1 rfl) (h3.free 1)).mono ?_
  rintro e u' w4 ⟨rfl, rfl, rfl⟩
  simp [Leaves, settle, results, Tryz.results61]
  refine ⟨b, Nat.le_trans HK1.out.size hbn, h3.set 1 _, (hb2.drew.setOther (a := ⟨r, 0, none⟩) hne _).setOther (a := ⟨r, 1, none⟩) hne _, HK1.out.trans (((hk2.drew).setCell (.inl rfl) 0 _).setCell (.inl rfl) 1 _)⟩

set_option maxRecDepth 100000 in
set_option maxHeartbeats 1600000 in
theorem do_any (r : Nat) (v : Value) (B : Nat) (w : World) (hr : Blk w r #[.int .u32 0, .int .i32 0, .int .u32 0, .nilIface, v] 95) (ho : w.ownsRow B 9 1 v 4 (olds.map strV)) (hv : ∀ k, v.ownBlock = some k → ¬ k = r) :
    Calls Tryz.prog 27 #[.pointer (some ⟨r, 0, none⟩), .func (.func 28) #[.pointer (some ⟨r, 0, none⟩)] #[]] w fun e w' => e = .returned (.tuple #[]) ∧ ∃ b, w.heap.size ≤ b ∧ Blk w' r #[.int .u32 1, .int .i32 0, .int .u32 0, .iface 248 (.pointer (some ⟨b, 0, none⟩)), .slice none 0 0] 95 ∧ Blk w' b tabR 247 ∧ Kept (fun j => j = r) w w' := by
  have hl := load_any ⟨r, 0, none⟩ 0 w (hr.cell 0 rfl)
  have hs := slow_any r v B w hr ho hv
  have hnot : ∀ (x : Bool) (w : World), (Op.unary .not (.bool x)).run Tryz.prog w = .ok (.bool (!x)) w := fun _ _ => rfl
  clear hr ho hv
  go_enter Tryz.func27, Tryz.ntmps27
  go_wp2_with fail
  refine hl.mono ?_
  rintro e w' ⟨rfl, rfl⟩
  clear hl
  go_wp2_with fail
  refine hs.mono ?_
  rintro e w2 ⟨rfl, h⟩
  have H := Lib.hid h
  clear hs h
  go_wp2_with fail
  first | go_end0 | skip
  exact ⟨rfl, H.out⟩

set_option maxRecDepth 100000 in
set_option maxHeartbeats 1600000 in
/-- A new replacer's Replace. -/
theorem replace_any (r : Nat) (v : Value) (B : Nat) (s : Bts) (hl : s.length < 1073741824) (w : World) (hr : Blk w r #[.int .u32 0, .int .i32 0, .int .u32 0, .nilIface, v] 95) (ho : w.ownsRow B 9 1 v 4 (olds.map strV)) (hv : ∀ k, v.ownBlock = some k → ¬ k = r) :
    Calls Tryz.prog 16 #[.pointer (some ⟨r, 0, none⟩), .string ⟨s.toArray⟩] w fun e w' => e = .returned (.string ⟨(s.map rep).toArray⟩) ∧ Kept (fun j => j = r) w w' := by
  have hd := do_any r v B w hr ho hv
  have hmf : ∀ (fn : Fn) (first cap : Array Value) (w : World), (Instr.makeFunc fn first cap).run Tryz.prog w = .ok (.func fn first cap) w := fun _ _ _ _ => rfl
  clear hr ho hv
  go_enter Tryz.func16, Tryz.ntmps16
  go_wp2_with fail
  refine hd.mono ?_
  rintro e w1 ⟨rfl, b, -, hr1, hb1, hk1⟩
  have c3 := hr1.cell 3 (v := .iface 248 (.pointer (some ⟨b, 0, none⟩))) rfl
  have hrep := byteRep_any b s hl w1 hb1
  have HK1 := Lib.hid hk1
  clear hd hr1 hb1 hk1
  go_wp2_with fail
  refine hrep.mono ?_
  rintro e w2 ⟨rfl, hb2⟩
  have HB2 := Lib.hid hb2
  clear hrep hb2
  go_wp2_with fail
  go_ret
  exact ⟨rfl, HK1.out.trans (Kept.of_below HB2.out)⟩

end Go.Proofs.YtjdcjdclipbjhaaGreatDoor.Rp

/-
  The walks of place and List. Conditions: lengths; what the library's variables hold.
-/
namespace Go.Proofs.YtjdcjdclipbjhaaGreatDoor
open Go.RowKit Go.Shelf Go.Maps

def placeR (x : Int × Bool) : Value := .tuple #[.int .i64 x.1, .bool x.2]

set_option maxRecDepth 100000 in
theorem place_any (s : Bts) (o : Int) (hl : s.length < 1073741824) (w : World) (hg : Glo w) :
    Calls Tryz.prog 18 #[.string ⟨s.toArray⟩, .int .i64 o] w fun e w' => e = .returned (placeR (Co.placeV s o)) ∧ Below w.heap.size w w' := by
  by_cases h0 : s = []
  · subst h0
    go_enter Tryz.func18, Tryz.ntmps18
    go_wp2_with fail
    go_ret2
    exact ⟨rfl, Below.refl _ _⟩
  · have hn := number_any s 2147483647 (by omega) (by decide) (by decide) w hg
    have hv : Co.placeV s o = match Ord.number s 2147483647 with
      | none => (0, false)
      | some n => (n, decide (0 < n)) := by unfold Co.placeV; rw [if_neg h0]; rfl
    rw [hv]
    have hne : s.isEmpty = false := by cases s with
      | nil => exact absurd rfl h0
      | cons _ _ => rfl
    cases hN : Ord.number s 2147483647 with
    | none =>
      have hx : numVal s 2147483647 = .tuple #[.int .i64 0, .bool false] := by unfold numVal; rw [hN]
      rw [hx] at hn
      clear hx hN hv h0
      go_enter Tryz.func18, Tryz.ntmps18
      go_wp2_with fail
      refine hn.mono ?_
      rintro e w1 ⟨rfl, hb⟩
      have HB := Lib.hid hb
      clear hn hb
      go_wp2_with fail
      go_ret2
      exact ⟨rfl, HB.out⟩
    | some n =>
      have hx : numVal s 2147483647 = .tuple #[.int .i64 n, .bool true] := by unfold numVal; rw [hN]
      rw [hx] at hn
      clear hx hN hv h0
      go_enter Tryz.func18, Tryz.ntmps18
      go_wp2_with fail
      refine hn.mono ?_
      rintro e w1 ⟨rfl, hb⟩
      have HB := Lib.hid hb
      clear hn hb
      go_wp2_with fail
      go_ret2
      exact ⟨rfl, HB.out⟩

end Go.Proofs.YtjdcjdclipbjhaaGreatDoor
