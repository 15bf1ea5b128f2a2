/-
  Texts of this seat put together: GW1, GW2, GW3, GW4, GW5, GW6.
-/
import Derived.Test.YtfgmmaahbngonaaGreatDoorQ13
import Derived.Test.YtfgmmaahbngonaaGreatDoorQ14
import Derived.BigRegion
import Derived.Maps.OwnSet
import Derived.ChangeMaps
import Derived.Deep.QuietTactic
import Derived.BigQuiet
import Derived.Shelf.Strings.Prefix
import Derived.Lib.IndexMore
import Derived.Maps.OwnOps
import Derived.Lib.LaidTab
import Derived.Shelf.Strconv.Itoa4

/-
  The walks of regex's small functions: classes of bytes, fail. No condition.
-/
namespace Go.Proofs.YtfgmmaahbngonaaGreatDoor.Rg
open Go.RowKit

/-- What a reader gives up with. -/
def brokenV : Value := .iface 347 (.agg #[])

theorem fail_any (w : World) : Calls Tryz.prog 212 #[] w fun e w' => e = .panicked [{ v := brokenV, recovered := false }] ∧ w = w' := by
  go_enter Tryz.func212, Tryz.ntmps212
  go_wp2
  exact ⟨rfl, rfl, rfl⟩

theorem in_any (c a b : UInt8) (w : World) : Calls Tryz.prog 293 #[.int .u8 c.toNat, .int .u8 a.toNat, .int .u8 b.toNat] w fun e w' => e = .returned (.bool (Rx.within c a b)) ∧ w = w' := by
  have HV : Hid (Rx.within c a b = (decide ((a.toNat : Int) ≤ c.toNat) && decide ((c.toNat : Int) ≤ b.toNat))) := by
    show _ = _
    simp only [Rx.within, u8_le]
  go_enter Tryz.func293, Tryz.ntmps293
  go_wp2
  all_goals
    go_ret
    refine ⟨ret_bool ?_, rfl⟩
    rw [HV.out]
    first | (simp [*]; done) | (simp [*]; omega)

theorem digit_any (c : UInt8) (w : World) : Calls Tryz.prog 289 #[.int .u8 c.toNat] w fun e w' => e = .returned (.bool (Rx.digit c)) ∧ w = w' := by
  have h := in_any c 48 57
  go_enter Tryz.func289, Tryz.ntmps289
  go_wp2_with fail
  refine (h _).mono ?_
  rintro e w' ⟨rfl, rfl⟩
  go_wp2_with fail
  go_ret
  exact ⟨rfl, rfl⟩

theorem graph_any (c : UInt8) (w : World) : Calls Tryz.prog 295 #[.int .u8 c.toNat] w fun e w' => e = .returned (.bool (Rx.graph c)) ∧ w = w' := by
  have h := in_any c 33 126
  go_enter Tryz.func295, Tryz.ntmps295
  go_wp2_with fail
  refine (h _).mono ?_
  rintro e w' ⟨rfl, rfl⟩
  go_wp2_with fail
  go_ret
  exact ⟨rfl, rfl⟩

theorem or32 (c : UInt8) : bits .or .u8 (c.toNat : Int) 32 = ((c ||| 0x20).toNat : Int) := u8_or c 0x20

theorem letter_any (c : UInt8) (w : World) : Calls Tryz.prog 288 #[.int .u8 c.toNat] w fun e w' => e = .returned (.bool (Rx.letter c)) ∧ w = w' := by
  have h := in_any (c ||| 0x20) 97 122
  rw [← or32] at h
  have HV : Hid (Rx.letter c = (Rx.within (c ||| 0x20) 97 122 && decide ((c.toNat : Int) < 128))) := by
    show _ = _
    unfold Rx.letter
    simp only [u8_lt]; rfl
  generalize Rx.within (c ||| 0x20) 97 122 = x at *
  go_enter Tryz.func288, Tryz.ntmps288
  go_wp2_with fail
  refine (h _).mono ?_
  rintro e w' ⟨rfl, rfl⟩
  go_wp2_with fail
  all_goals
    go_ret
    refine ⟨ret_bool ?_, rfl⟩
    rw [HV.out]
    first | (simp [*]; done) | (simp [*]; omega)

theorem alnum_any (c : UInt8) (w : World) : Calls Tryz.prog 283 #[.int .u8 c.toNat] w fun e w' => e = .returned (.bool (Rx.alnum c)) ∧ w = w' := by
  have h1 := letter_any c
  have h2 := digit_any c
  have HV : Hid (Rx.alnum c = (Rx.letter c || Rx.digit c)) := rfl
  generalize Rx.letter c = x at *
  generalize Rx.digit c = y at *
  go_enter Tryz.func283, Tryz.ntmps283
  go_wp2_with fail
  refine (h1 _).mono ?_
  rintro e w' ⟨rfl, rfl⟩
  cases x with
  | true =>
    go_wp2_with fail
    go_ret
    exact ⟨ret_bool (by rw [HV.out]; rfl), rfl⟩
  | false =>
    go_wp2_with fail
    refine (h2 _).mono ?_
    rintro e w' ⟨rfl, rfl⟩
    go_wp2_with fail
    go_ret
    exact ⟨ret_bool (by rw [HV.out]; rfl), rfl⟩

/-! The classes' own functions. -/
theorem upper_any (c : UInt8) (w : World) : Calls Tryz.prog 296 #[.int .u8 c.toNat] w fun e w' => e = .returned (.bool (Rx.within c 65 90)) ∧ w = w' := by
  have h := in_any c 65 90
  go_enter Tryz.func296, Tryz.ntmps296
  go_wp2_with fail
  refine (h _).mono ?_
  rintro e w' ⟨rfl, rfl⟩
  go_wp2_with fail
  go_ret
  exact ⟨rfl, rfl⟩
theorem lower_any (c : UInt8) (w : World) : Calls Tryz.prog 297 #[.int .u8 c.toNat] w fun e w' => e = .returned (.bool (Rx.within c 97 122)) ∧ w = w' := by
  have h := in_any c 97 122
  go_enter Tryz.func297, Tryz.ntmps297
  go_wp2_with fail
  refine (h _).mono ?_
  rintro e w' ⟨rfl, rfl⟩
  go_wp2_with fail
  go_ret
  exact ⟨rfl, rfl⟩
theorem blank_any (c : UInt8) (w : World) : Calls Tryz.prog 298 #[.int .u8 c.toNat] w fun e w' => e = .returned (.bool (c == 32 || c == 9)) ∧ w = w' := by
  have HV : Hid ((c == 32 || c == 9) = (decide ((c.toNat : Int) = 32) || decide ((c.toNat : Int) = 9))) := by
    show _ = _
    rw [u8_beq, u8_beq]; rfl
  go_enter Tryz.func298, Tryz.ntmps298
  go_wp2
  all_goals
    go_ret
    refine ⟨ret_bool ?_, rfl⟩
    rw [HV.out, Bool.eq_iff_iff]
    simp
    omega
theorem space_any (c : UInt8) (w : World) : Calls Tryz.prog 299 #[.int .u8 c.toNat] w fun e w' => e = .returned (.bool (c == 32 || Rx.within c 9 13)) ∧ w = w' := by
  have h := in_any c 9 13
  have HV : Hid ((c == 32 || Rx.within c 9 13) = (decide ((c.toNat : Int) = 32) || Rx.within c 9 13)) := by
    show _ = _
    rw [u8_beq]; rfl
  generalize Rx.within c 9 13 = x at *
  by_cases h32 : (c.toNat : Int) = 32
  · have h32' : ((c.toNat : Int) == 32) = true := by simpa using h32
    have H32 := Lib.hid h32; clear h32
    go_enter Tryz.func299, Tryz.ntmps299
    go_wp2_with fail
    go_ret
    exact ⟨ret_bool (by rw [HV.out]; simp [H32.out]), rfl⟩
  · have h32' : ((c.toNat : Int) == 32) = false := by simpa using h32
    have H32 := Lib.hid h32; clear h32
    go_enter Tryz.func299, Tryz.ntmps299
    go_wp2_with fail
    refine (h _).mono ?_
    rintro e w' ⟨rfl, rfl⟩
    go_wp2_with fail
    go_ret
    exact ⟨ret_bool (by rw [HV.out]; simp [H32.out]), rfl⟩
theorem cntrl_any (c : UInt8) (w : World) : Calls Tryz.prog 300 #[.int .u8 c.toNat] w fun e w' => e = .returned (.bool (decide (c < 32) || c == 127)) ∧ w = w' := by
  have HV : Hid ((decide (c < 32) || c == 127) = (decide ((c.toNat : Int) < 32) || decide ((c.toNat : Int) = 127))) := by
    show _ = _
    simp only [u8_beq, u8_lt]; rfl
  go_enter Tryz.func300, Tryz.ntmps300
  go_wp2
  all_goals
    go_ret
    refine ⟨ret_bool ?_, rfl⟩
    rw [HV.out, Bool.eq_iff_iff]
    simp
    omega
theorem print_any (c : UInt8) (w : World) : Calls Tryz.prog 301 #[.int .u8 c.toNat] w fun e w' => e = .returned (.bool (Rx.within c 32 126)) ∧ w = w' := by
  have h := in_any c 32 126
  go_enter Tryz.func301, Tryz.ntmps301
  go_wp2_with fail
  refine (h _).mono ?_
  rintro e w' ⟨rfl, rfl⟩
  go_wp2_with fail
  go_ret
  exact ⟨rfl, rfl⟩
theorem punct_any (c : UInt8) (w : World) : Calls Tryz.prog 302 #[.int .u8 c.toNat] w fun e w' => e = .returned (.bool (Rx.graph c && !Rx.alnum c)) ∧ w = w' := by
  have h1 := graph_any c
  have h2 := alnum_any c
  generalize Rx.graph c = x at *
  generalize Rx.alnum c = y at *
  go_enter Tryz.func302, Tryz.ntmps302
  go_wp2_with fail
  refine (h1 _).mono ?_
  rintro e w' ⟨rfl, rfl⟩
  cases x with
  | false =>
    go_wp2_with fail
    go_ret
    exact ⟨rfl, rfl⟩
  | true =>
    go_wp2_with fail
    refine (h2 _).mono ?_
    rintro e w' ⟨rfl, rfl⟩
    go_wp2_with fail
    go_ret
    exact ⟨rfl, rfl⟩
theorem xdigit_any (c : UInt8) (w : World) : Calls Tryz.prog 303 #[.int .u8 c.toNat] w fun e w' => e = .returned (.bool (Rx.digit c || Rx.within (c ||| 0x20) 97 102)) ∧ w = w' := by
  have h1 := digit_any c
  have h2 := in_any (c ||| 0x20) 97 102
  rw [← or32] at h2
  generalize Rx.digit c = x at *
  generalize Rx.within (c ||| 0x20) 97 102 = y at *
  go_enter Tryz.func303, Tryz.ntmps303
  go_wp2_with fail
  refine (h1 _).mono ?_
  rintro e w' ⟨rfl, rfl⟩
  cases x with
  | true =>
    go_wp2_with fail
    go_ret
    exact ⟨rfl, rfl⟩
  | false =>
    go_wp2_with fail
    refine (h2 _).mono ?_
    rintro e w' ⟨rfl, rfl⟩
    go_wp2_with fail
    go_ret
    exact ⟨rfl, rfl⟩

end Go.Proofs.YtfgmmaahbngonaaGreatDoor.Rg

/-
  What a reader leaves alone; the walks of take, must, next. Condition: the reader lies in memory as it is told.
-/
namespace Go.Proofs.YtfgmmaahbngonaaGreatDoor.Rg
open Go.RowKit Go.Shelf

/-- Of what was there nothing has turned, but for some blocks. -/
structure Kept (S : Nat → Prop) (w w' : World) : Prop where
  os : w'.os = w.os
  tape : w'.tape = w.tape
  output : w'.output = w.output
  size : w.heap.size ≤ w'.heap.size
  block : ∀ k, k < w.heap.size → ¬ S k → w'.heap[k]? = w.heap[k]?

theorem Kept.refl (S : Nat → Prop) (w : World) : Kept S w w := ⟨rfl, rfl, rfl, Nat.le_refl _, fun _ _ _ => rfl⟩
theorem Kept.of_below {S : Nat → Prop} {w w' : World} (h : Below w.heap.size w w') : Kept S w w' := ⟨h.os, h.tape, h.output, h.size, fun k hk _ => h.block k hk⟩
theorem Kept.trans {S : Nat → Prop} {w w' w'' : World} (h : Kept S w w') (h2 : Kept S w' w'') : Kept S w w'' :=
  ⟨h2.os.trans h.os, h2.tape.trans h.tape, h2.output.trans h.output, Nat.le_trans h.size h2.size, fun k hk hs => (h2.block k (Nat.lt_of_lt_of_le hk h.size) hs).trans (h.block k hk hs)⟩
/-- Whatever the second part turns beside lies in new memory. -/
theorem Kept.trans' {S T : Nat → Prop} {w w' w'' : World} (h : Kept S w w') (h2 : Kept T w' w'') (hT : ∀ k, k < w.heap.size → T k → S k) : Kept S w w'' :=
  ⟨h2.os.trans h.os, h2.tape.trans h.tape, h2.output.trans h.output, Nat.le_trans h.size h2.size, fun k hk hs => (h2.block k (Nat.lt_of_lt_of_le hk h.size) fun ht => hs (hT k hk ht)).trans (h.block k hk hs)⟩
theorem Kept.mono {S T : Nat → Prop} {w w' : World} (h : Kept S w w') (hT : ∀ k, k < w.heap.size → S k → T k) : Kept T w w' :=
  ⟨h.os, h.tape, h.output, h.size, fun k hk hs => h.block k hk fun ht => hs (hT k hk ht)⟩
theorem Kept.alloc {S : Nat → Prop} {w w' : World} (h : Kept S w w') (o : Obj) : Kept S w (w'.alloc o) :=
  h.trans (Kept.of_below ((Below.refl _ _).alloc (Nat.le_refl _) _))
theorem Kept.drew {S : Nat → Prop} {w w' : World} (h : Kept S w w') : Kept S w w'.drew := ⟨h.os, h.tape, h.output, h.size, h.block⟩
theorem Kept.below {w w' : World} (h : Kept (fun _ => False) w w') : Below w.heap.size w w' := ⟨h.os, h.tape, h.output, h.size, fun k hk => h.block k hk id⟩
theorem Blk.kept {S : Nat → Prop} {w w' : World} {b : Nat} {cs : Array Value} {t : TypeId} (h : Blk w b cs t) (hk : Kept S w w') (hS : ¬ S b) : Blk w' b cs t := (hk.block b h.lt hS).trans h

theorem Kept.setCell {S : Nat → Prop} {w w' : World} (h : Kept S w w') {b : Nat} (hb : S b ∨ w.heap.size ≤ b) (i : Nat) (v : Value) : Kept S w (w'.setCell ⟨b, i, none⟩ v) :=
  ⟨h.os, h.tape, h.output, by simpa [World.setCell] using h.size, fun k hk hs => (Below.heap_setCell w' ⟨b, i, none⟩ v k (by
    rintro rfl
    rcases hb with hb | hb
    · exact hs hb
    · have hb' : w.heap.size ≤ k := hb
      omega)).trans (h.block k hk hs)⟩

/-- A reader. -/
def RdAt (w : World) (r : Nat) (s : Rx.Bytes) (ext fold : Bool) : Prop := Blk w r #[.string ⟨s.toArray⟩, .bool ext, .bool fold] 313

/-- What take hands back and leaves. -/
def TakePost (r : Nat) (t s : Rx.Bytes) (ext fold : Bool) (e : Ending) (w' : World) : Prop := match Rx.take t s with
  | some s' => e = .returned (.bool true) ∧ RdAt w' r s' ext fold
  | none => e = .returned (.bool false) ∧ RdAt w' r s ext fold

theorem take_any (r : Nat) (t s : Rx.Bytes) (ext fold : Bool) (w : World) (h : RdAt w r s ext fold) :
    Calls Tryz.prog 243 #[.pointer (some ⟨r, 0, none⟩), .string ⟨t.toArray⟩] w fun e w' => TakePost r t s ext fold e w' ∧ Kept (· = r) w w' := by
  have hcp := Any.strings_CutPrefix Tryz.lays103 ⟨s.toArray⟩ ⟨t.toArray⟩
  have c0 : w.cell? ⟨r, 0, none⟩ = some (.string ⟨s.toArray⟩) := Blk.cell h 0 rfl
  have f0 := h.free 0
  go_enter Tryz.func243, Tryz.ntmps243
  go_wp2_with fail
  refine (hcp _).mono ?_
  rintro e w' ⟨rfl, rfl⟩
  clear hcp
  have hv : ∀ e w', TakePost r t s ext fold e w' = if Lib.hasPrefix s t = true then e = .returned (.bool true) ∧ RdAt w' r (Lib.trimPrefix s t) ext fold else e = .returned (.bool false) ∧ RdAt w' r s ext fold := by
    intro e w'
    unfold TakePost Rx.take Lib.trimPrefix Lib.hasPrefix
    cases t.isPrefixOf s <;> rfl
  have HV := Lib.hid hv; clear hv
  have H := Lib.hid h; clear h
  generalize Lib.hasPrefix s t = is at *
  generalize Lib.trimPrefix s t = u at *
  cases is with
  | true =>
    go_wp2_with fail
    go_ret
    refine ⟨?_, (Kept.refl (· = r) _).setCell (.inl rfl) 0 _⟩
    rw [HV.out, if_pos (by trivial)]
    exact ⟨rfl, H.out.set 0 _⟩
  | false =>
    go_wp2_with fail
    go_ret
    refine ⟨?_, Kept.refl _ _⟩
    rw [HV.out, if_neg (by decide)]
    exact ⟨rfl, H.out⟩

/-- must: it stands here, or it gives up. -/
def MustPost (r : Nat) (t s : Rx.Bytes) (ext fold : Bool) (e : Ending) (w' : World) : Prop := match Rx.take t s with
  | some s' => e = .returned (.tuple #[]) ∧ RdAt w' r s' ext fold
  | none => e = .panicked [{ v := brokenV, recovered := false }]

theorem must_any (r : Nat) (t s : Rx.Bytes) (ext fold : Bool) (w : World) (h : RdAt w r s ext fold) :
    Calls Tryz.prog 269 #[.pointer (some ⟨r, 0, none⟩), .string ⟨t.toArray⟩] w fun e w' => MustPost r t s ext fold e w' ∧ Kept (· = r) w w' := by
  have ht := take_any r t s ext fold w h
  unfold TakePost at ht
  unfold MustPost
  cases hx : Rx.take t s with
  | some s' =>
    rw [hx] at ht
    go_enter Tryz.func269, Tryz.ntmps269
    go_wp2_with fail
    refine ht.mono ?_
    rintro e w' ⟨⟨rfl, hr⟩, hk⟩
    go_wp2_with fail
    go_end0
    exact ⟨⟨rfl, hr⟩, hk⟩
  | none =>
    rw [hx] at ht
    go_enter Tryz.func269, Tryz.ntmps269
    go_wp2_with fail
    refine ht.mono ?_
    rintro e w' ⟨⟨rfl, hr⟩, hk⟩
    go_wp2_with fail
    refine (fail_any _).mono ?_
    rintro e w'' ⟨rfl, rfl⟩
    go_wp2_with fail
    exact ⟨rfl, rfl, hk⟩

/-- next: a byte, or it gives up. -/
def NextPost (r : Nat) (s : Rx.Bytes) (ext fold : Bool) (e : Ending) (w' : World) : Prop := match s with
  | c :: s' => e = .returned (.int .u8 c.toNat) ∧ RdAt w' r s' ext fold
  | [] => e = .panicked [{ v := brokenV, recovered := false }]

theorem next_any (r : Nat) (s : Rx.Bytes) (ext fold : Bool) (w : World) (h : RdAt w r s ext fold) :
    Calls Tryz.prog 246 #[.pointer (some ⟨r, 0, none⟩)] w fun e w' => NextPost r s ext fold e w' ∧ Kept (· = r) w w' := by
  have c0 : w.cell? ⟨r, 0, none⟩ = some (.string ⟨s.toArray⟩) := Blk.cell h 0 rfl
  have f0 := h.free 0
  unfold NextPost
  cases s with
  | nil =>
    go_enter Tryz.func246, Tryz.ntmps246
    go_wp2_with fail
    refine (fail_any _).mono ?_
    rintro e w'' ⟨rfl, rfl⟩
    go_wp2_with fail
    exact ⟨rfl, rfl, Kept.refl _ _⟩
  | cons c s' =>
    go_enter Tryz.func246, Tryz.ntmps246
    go_wp2_with fail
    go_ret
    refine ⟨⟨rfl, ?_⟩, (Kept.refl (· = r) _).setCell (.inl rfl) 0 _⟩
    have hs := Blk.set h 0 (.string ⟨s'.toArray⟩)
    rw [show (⟨(c :: s').toArray⟩ : ByteArray).extract 1 (s'.length + 1) = ⟨s'.toArray⟩ from extract_drop (c :: s') 1]
    exact hs

end Go.Proofs.YtfgmmaahbngonaaGreatDoor.Rg

/-
  Nodes in memory; the walks of folds, one, dot. Condition: what is told lies in memory.
-/
namespace Go.Proofs.YtfgmmaahbngonaaGreatDoor.Rg
open Go.RowKit Go.Shelf

def hasCells (h : Rx.Has) : List Value := (List.range 256).map fun i => .bool (h (UInt8.ofNat i))
/-- A node's cells. -/
def ndCells (kind : Int) (h : Rx.Has) (mn mx : Int) (kids : Value) : Array Value := (.int .i64 kind :: hasCells h ++ [.int .i64 mn, .int .i64 mx, kids]).toArray

theorem hasCells_len (h : Rx.Has) : (hasCells h).length = 256 := by simp [hasCells]
theorem nd_kind (kind : Int) (h : Rx.Has) (mn mx : Int) (kids : Value) : (ndCells kind h mn mx kids)[0]? = some (.int .i64 kind) := rfl
theorem nd_has (kind : Int) (h : Rx.Has) (mn mx : Int) (kids : Value) (i : Nat) (hi : i < 256) : (ndCells kind h mn mx kids)[1 + i]? = some (.bool (h (UInt8.ofNat i))) := by
  unfold ndCells
  rw [List.getElem?_toArray, Nat.add_comm, List.cons_append, List.getElem?_cons_succ, List.getElem?_append_left (by rw [hasCells_len]; exact hi)]
  simp [hasCells, List.getElem?_range hi]
theorem nd_min (kind : Int) (h : Rx.Has) (mn mx : Int) (kids : Value) : (ndCells kind h mn mx kids)[257]? = some (.int .i64 mn) := by
  unfold ndCells
  rw [List.getElem?_toArray, List.cons_append, List.getElem?_cons_succ, List.getElem?_append_right (by rw [hasCells_len]; omega), hasCells_len]; rfl
theorem nd_max (kind : Int) (h : Rx.Has) (mn mx : Int) (kids : Value) : (ndCells kind h mn mx kids)[258]? = some (.int .i64 mx) := by
  unfold ndCells
  rw [List.getElem?_toArray, List.cons_append, List.getElem?_cons_succ, List.getElem?_append_right (by rw [hasCells_len]; omega), hasCells_len]; rfl
theorem nd_kids (kind : Int) (h : Rx.Has) (mn mx : Int) (kids : Value) : (ndCells kind h mn mx kids)[259]? = some kids := by
  unfold ndCells
  rw [List.getElem?_toArray, List.cons_append, List.getElem?_cons_succ, List.getElem?_append_right (by rw [hasCells_len]; omega), hasCells_len]; rfl

theorem nd_set (kind : Int) (h : Rx.Has) (mn mx : Int) (kids : Value) (i : Nat) (hi : i < 256) (v : Bool) :
    (ndCells kind h mn mx kids).setIfInBounds (1 + i) (.bool v) = ndCells kind (fun c => if c.toNat = i then v else h c) mn mx kids := by
  apply Array.ext'
  unfold ndCells
  rw [Array.toList_setIfInBounds, Nat.add_comm, List.cons_append, List.cons_append, List.set_cons_succ, List.set_append_left _ _ (by rw [hasCells_len]; exact hi)]
  congr 2
  apply List.ext_getElem
  · simp [hasCells]
  · intro j h1 h2
    rw [hasCells_len] at h2
    rw [List.getElem_set]
    simp only [hasCells, List.getElem_map, List.getElem_range]
    have e : (UInt8.ofNat j).toNat = j := by simp [UInt8.toNat_ofNat']; omega
    rw [e]
    by_cases hij : i = j
    · rw [if_pos hij, if_pos hij.symm]
    · rw [if_neg hij, if_neg (fun h => hij h.symm)]

theorem nd_new (k : Int) : Tryz.zeroCells351.setIfInBounds 0 (.int .i64 k) = ndCells k (fun _ => false) 0 0 (.slice none 0 0) := by
  kernel_rfl

set_option maxHeartbeats 1600000 in
set_option maxRecDepth 100000 in
theorem dot_any (w : World) : Calls Tryz.prog 271 #[] w fun e w' => e = .returned (.pointer (some ⟨w.heap.size, 0, none⟩)) ∧ Blk w' w.heap.size (ndCells 1 (fun _ => true) 0 0 (.slice none 0 0)) 351 ∧ Below w.heap.size w w' := by
  go_enter Tryz.func271, Tryz.ntmps271
  go_upto_region 2 with fail
  rw [nd_new]
  have hb := Blk.new w (ndCells 1 (fun _ => false) 0 0 (.slice none 0 0)) 351
  have hbw : Below w.heap.size w (w.alloc (.cells (ndCells 1 (fun _ => false) 0 0 (.slice none 0 0)) 351)) := (Below.refl _ _).alloc (Nat.le_refl _) _
  generalize w.alloc (.cells (ndCells 1 (fun _ => false) 0 0 (.slice none 0 0)) 351) = w1 at *
  go_wp2_with fail
  go_loopw [2, 5] (fun _x2 x5 wr => ∃ k : Nat, k ≤ 256 ∧ x5 = .int .i64 k ∧ Blk wr w.heap.size (ndCells 1 (fun c => decide (c.toNat < k)) 0 0 (.slice none 0 0)) 351 ∧ Below w.heap.size w wr) (fun _ x5 _ => 256 - (intOf x5).toNat)
  case atStart => exact ⟨0, Nat.zero_le _, rfl, by simpa using hb, hbw⟩
  case round =>
    clear hb hbw
    obtain ⟨k, hk, rfl, hb, hbw⟩ := hrel
    have hlr := hb.lt
    by_cases hlt : k < 256
    · have c0 := hb.cell (1 + k) (nd_has _ _ _ _ _ k hlt)
      have f0 := hb.free (1 + k)
      go_wp2_with fail
      refine ⟨⟨k + 1, by omega, by go_num, ?_, hbw.setCell (Nat.le_refl _) _⟩, ?_⟩
      · have := hb.set (1 + k) (.bool true)
        rw [nd_set _ _ _ _ _ k hlt] at this
        have e : (fun c : UInt8 => if c.toNat = k then true else decide (c.toNat < k)) = fun c => decide (c.toNat < k + 1) := by
          funext c
          by_cases h : c.toNat = k
          · rw [if_pos h]; simp; omega
          · rw [if_neg h]; simp; omega
        rw [e] at this
        exact this
      · show 256 - ((k : Int) + 1).toNat < 256 - (k : Int).toNat
        omega
    · obtain rfl : k = 256 := by omega
      go_wp2_with fail
      go_ret
      refine ⟨rfl, ?_, hbw⟩
      have e : (fun c : UInt8 => decide (c.toNat < 256)) = fun _ => true := by
        funext c
        have := c.toNat_lt
        simp only [decide_eq_true_eq]
        omega
      rw [e] at hb
      exact hb

end Go.Proofs.YtfgmmaahbngonaaGreatDoor.Rg

/-
  The walks of folds, one. Condition: what is told lies in memory.
-/
namespace Go.Proofs.YtfgmmaahbngonaaGreatDoor.Rg
open Go.RowKit Go.Shelf

/-- Both letters, of the letters from A on, below the k-th sign. -/
def foldsTo (k : Nat) (h : Rx.Has) : Rx.Has := fun c =>
  if 65 ≤ c.toNat ∧ c.toNat < k then h c || h (c + 32)
  else if 97 ≤ c.toNat ∧ c.toNat < k + 32 then h c || h (c - 32)
  else h c

theorem foldsTo_start (h : Rx.Has) : foldsTo 65 h = h := by
  funext c; unfold foldsTo
  rw [if_neg (by omega), if_neg (by omega)]

theorem foldsTo_end (h : Rx.Has) : foldsTo 91 h = Rx.folds true h := by
  funext c; unfold foldsTo Rx.folds Rx.within
  have e1 : (65 ≤ c.toNat ∧ c.toNat < 91) ↔ ((true && (decide ((65 : UInt8) ≤ c) && decide (c ≤ 90))) = true) := by
    simp only [Bool.true_and, Bool.and_eq_true, decide_eq_true_eq, UInt8.le_iff_toNat_le]
    show _ ↔ (65 ≤ c.toNat ∧ c.toNat ≤ 90)
    omega
  have e2 : (97 ≤ c.toNat ∧ c.toNat < 91 + 32) ↔ ((true && (decide ((97 : UInt8) ≤ c) && decide (c ≤ 122))) = true) := by
    simp only [Bool.true_and, Bool.and_eq_true, decide_eq_true_eq, UInt8.le_iff_toNat_le]
    show _ ↔ (97 ≤ c.toNat ∧ c.toNat ≤ 122)
    omega
  simp only [e1, e2]

theorem foldsTo_step (h : Rx.Has) (k : Nat) (h1 : 65 ≤ k) (h2 : k < 91) (both : Bool)
    (hb : (foldsTo k h (UInt8.ofNat k) || foldsTo k h (UInt8.ofNat (k + 32))) = both) :
    (fun c : UInt8 => if c.toNat = k + 32 then both else if c.toNat = k then both else foldsTo k h c) = foldsTo (k + 1) h := by
  funext c
  have ek : (UInt8.ofNat k).toNat = k := by simp [UInt8.toNat_ofNat']; omega
  have ek2 : (UInt8.ofNat (k + 32)).toNat = k + 32 := by simp [UInt8.toNat_ofNat']; omega
  have hb' : both = (h (UInt8.ofNat k) || h (UInt8.ofNat (k + 32))) := by
    rw [← hb]; unfold foldsTo
    rw [ek, ek2, if_neg (by omega), if_neg (by omega), if_neg (by omega), if_neg (by omega)]
  by_cases hc : c.toNat = k + 32
  · rw [if_pos hc]
    unfold foldsTo
    rw [if_neg (by omega), if_pos (by omega), hb']
    have e : c = UInt8.ofNat (k + 32) := UInt8.toNat_inj.1 (by rw [ek2, hc])
    have e2 : c - 32 = UInt8.ofNat k := by
      apply UInt8.toNat_inj.1
      rw [ek, UInt8.toNat_sub_of_le _ _ (by rw [UInt8.le_iff_toNat_le]; show 32 ≤ c.toNat; omega)]
      show c.toNat - 32 = k
      omega
    rw [← e, e2, Bool.or_comm]
  · rw [if_neg hc]
    by_cases hc2 : c.toNat = k
    · rw [if_pos hc2]
      unfold foldsTo
      rw [if_pos (by omega), hb']
      have e : c = UInt8.ofNat k := UInt8.toNat_inj.1 (by rw [ek, hc2])
      have e2 : c + 32 = UInt8.ofNat (k + 32) := by
        apply UInt8.toNat_inj.1
        rw [ek2, UInt8.toNat_add]
        show (c.toNat + 32) % 256 = k + 32
        omega
      rw [← e, e2]
    · rw [if_neg hc2]
      unfold foldsTo
      by_cases q1 : 65 ≤ c.toNat ∧ c.toNat < k
      · rw [if_pos q1, if_pos (by omega)]
      · rw [if_neg q1, if_neg (c := 65 ≤ c.toNat ∧ c.toNat < k + 1) (by omega)]
        by_cases q2 : 97 ≤ c.toNat ∧ c.toNat < k + 32
        · rw [if_pos q2, if_pos (by omega)]
        · rw [if_neg q2, if_neg (by omega)]

theorem or_32 : ∀ k : Nat, k < 91 → 65 ≤ k → bits .or .i32 (k : Int) 32 = (k : Int) + 32 := by decide +kernel

theorem rd_ne {w : World} {r b : Nat} {s : Rx.Bytes} {ext fold : Bool} {cs : Array Value} (h : RdAt w r s ext fold) (hb : Blk w b cs 351) : r ≠ b := by
  rintro rfl
  unfold RdAt Blk at h
  unfold Blk at hb
  rw [h] at hb
  simp at hb

set_option maxHeartbeats 1600000 in
theorem folds_any (r b : Nat) (kind mn mx : Int) (kids : Value) (h : Rx.Has) (s : Rx.Bytes) (ext fold : Bool) (w : World) (hr : RdAt w r s ext fold) (hb : Blk w b (ndCells kind h mn mx kids) 351) :
    Calls Tryz.prog 282 #[.pointer (some ⟨r, 0, none⟩), .pointer (some ⟨b, 0, none⟩)] w fun e w' => e = .returned (.pointer (some ⟨b, 0, none⟩)) ∧ Blk w' b (ndCells kind (Rx.folds fold h) mn mx kids) 351 ∧ Kept (· = b) w w' := by
  have hne := rd_ne hr hb
  cases fold with
  | false =>
    have c2 : w.cell? ⟨r, 2, none⟩ = some (.bool false) := Blk.cell hr 2 rfl
    go_enter Tryz.func282, Tryz.ntmps282
    go_wp2_with fail
    go_loopw [5, 6] (fun x5 _x6 wr => x5 = .int .i32 65 ∧ wr = w) (fun _ _ _ => 0)
    case atStart => exact ⟨rfl, rfl⟩
    case round =>
      obtain ⟨rfl, rfl⟩ := hrel
      go_wp2_with fail
      go_ret
      refine ⟨rfl, ?_, Kept.refl _ _⟩
      have e : Rx.folds false h = h := by funext c; simp [Rx.folds]
      rw [e]; exact hb
  | true =>
    go_enter Tryz.func282, Tryz.ntmps282
    go_wp2_with fail
    go_loopw [5, 6] (fun x5 _x6 wr => ∃ k : Nat, 65 ≤ k ∧ k ≤ 91 ∧ x5 = .int .i32 k ∧ Blk wr b (ndCells kind (foldsTo k h) mn mx kids) 351 ∧ RdAt wr r s ext true ∧ Kept (· = b) w wr) (fun x5 _ _ => 91 - (intOf x5).toNat)
    case atStart => exact ⟨65, by omega, by omega, rfl, by rw [foldsTo_start]; exact hb, hr, Kept.refl _ _⟩
    case round =>
      clear hb hr
      obtain ⟨k, hk1, hk, rfl, hb, hr, hK⟩ := hrel
      have c2 : wr.cell? ⟨r, 2, none⟩ = some (.bool true) := Blk.cell hr 2 rfl
      by_cases hlt : k < 91
      · have c0 := hb.cell (1 + k) (nd_has _ _ _ _ _ k (by omega))
        have f0 := hb.free (1 + k)
        have c1 := hb.cell (1 + (k + 32)) (nd_has _ _ _ _ _ (k + 32) (by omega))
        have f1 := hb.free (1 + (k + 32))
        have ho := or_32 k hlt hk1
        have HS := Lib.hid (foldsTo_step h k hk1 hlt)
        generalize foldsTo k h (UInt8.ofNat k) = x at *
        generalize foldsTo k h (UInt8.ofNat (k + 32)) = y at *
        go_wp2_with fail
        all_goals
          go_region
          go_wp2_with fail
          rename_i hx
          refine ⟨⟨k + 1, by omega, by omega, by go_num, ?_, ?_, ?_⟩, ?_⟩
          · rw [← HS.out _ rfl, ← nd_set _ _ _ _ _ _ (by omega), ← nd_set _ _ _ _ _ _ (by omega), hx]
            exact ((hb.set (1 + k) _).set (1 + (k + 32)) _).drew
          · exact ((hr.setOther (a := ⟨b, 1 + k, none⟩) hne _).setOther (a := ⟨b, 1 + (k + 32), none⟩) hne _).drew
          · exact ((hK.setCell (.inl rfl) _ _).setCell (.inl rfl) _ _).drew
          · show 91 - ((k : Int) + 1).toNat < 91 - (k : Int).toNat
            omega
      · obtain rfl : k = 91 := by omega
        go_wp2_with fail
        go_ret
        refine ⟨rfl, ?_, hK⟩
        rw [← foldsTo_end]; exact hb

theorem one_any (r : Nat) (c : UInt8) (s : Rx.Bytes) (ext fold : Bool) (w : World) (hr : RdAt w r s ext fold) :
    Calls Tryz.prog 273 #[.pointer (some ⟨r, 0, none⟩), .int .u8 c.toNat] w fun e w' => e = .returned (.pointer (some ⟨w.heap.size, 0, none⟩)) ∧ Blk w' w.heap.size (ndCells 1 (Rx.folds fold fun d => d == c) 0 0 (.slice none 0 0)) 351 ∧ Below w.heap.size w w' := by
  have hc := c.toNat_lt
  have H := Lib.hid hr
  clear hr
  go_enter Tryz.func273, Tryz.ntmps273
  go_upto_region 2 with fail
  rw [nd_new]
  have hb := Blk.new w (ndCells 1 (fun _ => false) 0 0 (.slice none 0 0)) 351
  have hbw : Below w.heap.size w (w.alloc (.cells (ndCells 1 (fun _ => false) 0 0 (.slice none 0 0)) 351)) := (Below.refl _ _).alloc (Nat.le_refl _) _
  have hr := H.out.alloc (.cells (ndCells 1 (fun _ => false) 0 0 (.slice none 0 0)) 351)
  generalize w.alloc (.cells (ndCells 1 (fun _ => false) 0 0 (.slice none 0 0)) 351) = w1 at *
  have hlr := hb.lt
  have c0 := hb.cell (1 + c.toNat) (nd_has _ _ _ _ _ c.toNat hc)
  have f0 := hb.free (1 + c.toNat)
  have hne := rd_ne hr hb
  go_upto_region 3 with fail
  have hb2 := hb.set (1 + c.toNat) (.bool true)
  rw [nd_set _ _ _ _ _ _ hc] at hb2
  have hr2 : RdAt _ r s ext fold := hr.setOther (a := ⟨w.heap.size, 1 + c.toNat, none⟩) hne (.bool true)
  have hbw2 := hbw.setCell (p := ⟨w.heap.size, 1 + c.toNat, none⟩) (Nat.le_refl _) (.bool true)
  clear hb hr hbw c0 f0 hlr
  generalize w1.setCell ⟨w.heap.size, 1 + c.toNat, none⟩ (.bool true) = w2 at *
  have hf := folds_any r w.heap.size 1 0 0 (.slice none 0 0) _ s ext fold w2 hr2 hb2
  have hlr := hb2.lt
  go_wp2_with fail
  refine hf.mono ?_
  rintro e w' ⟨rfl, hb3, hk⟩
  go_wp2_with fail
  go_ret
  have e : (fun d : UInt8 => if d.toNat = c.toNat then true else false) = fun d => d == c := by
    funext d
    by_cases h : d = c
    · subst h; simp
    · rw [if_neg (fun h2 => h (UInt8.toNat_inj.1 h2))]; simp [h]
  rw [e] at hb3
  refine ⟨rfl, hb3, ?_⟩
  exact ((Kept.of_below hbw2).trans' (S := fun _ => False) hk (fun k hk he => by omega)).below

end Go.Proofs.YtfgmmaahbngonaaGreatDoor.Rg

/-
  The walks of classes, named. Condition: what is told lies in memory.
-/
namespace Go.Proofs.YtfgmmaahbngonaaGreatDoor.Rg
open Go.RowKit Go.Shelf Go.Maps

/-- The function of a class. -/
def clsFn (n : Nat) : Value := .agg #[.func (.func n) #[] #[]]
/-- How a class reads in the map. -/
def clsList : List Value → Option (DataW Unit × List MemPlace)
  | [.func (.func n) a b] => if a = #[] ∧ b = #[] then some (.lit (.int .i64 n), []) else none
  | [.nilFunc] => some (.lit (.int .i64 (-1)), [])
  | _ => none
def clsElem : Value → Option (DataW Unit × List MemPlace)
  | .agg cs => clsList cs.toList
  | _ => none

theorem clsElem_fn (n : Nat) : clsElem (clsFn n) = some (.lit (.int .i64 n), []) := rfl
theorem clsElem_inv {v : Value} {n : Nat} {ps : List MemPlace} (h : clsElem v = some (.lit (.int .i64 n), ps)) : v = clsFn n := by
  unfold clsElem at h
  split at h
  · rename_i cs
    unfold clsList at h
    split at h
    · rename_i e
      split at h
      · rename_i hs
        obtain ⟨rfl, rfl⟩ := hs
        simp only [Option.some.injEq, Prod.mk.injEq, DataW.lit.injEq, Lit.int.injEq, true_and] at h
        obtain ⟨h1, -⟩ := h
        obtain rfl := Int.ofNat.inj h1
        exact congrArg Value.agg (Array.toList_inj.1 e)
      · cases h
    · simp only [Option.some.injEq, Prod.mk.injEq, DataW.lit.injEq, Lit.int.injEq, true_and] at h
      omega
    · cases h
  · cases h

theorem wpList_insert_own {H : Type} {P : Program} (w : World) {ops : Array Oper} {rest : List Oper} {o : Oper} {a : Act} {Q : Exit → Act → World → Prop}
    (hg : o.guard = none) (m x v : Operand) (t : TypeId) (hop : o.op = Op.insert t m x v)
    (k e : TypeId) (K : Keyed P k) (ht : P.underlying t = some (.map k e)) (R : Value → Option (DataW H × List MemPlace)) (b n : Nat) (D : DataW H)
    (hm : a.eval m = .map (some b)) (hown : w.ownsMap P k R b n D) (hn : n < maxLen) (key val : Value) (kl : Lit) (hx : a.eval x = key) (hv : a.eval v = val) (hkey : keyOf P k key = some kl)
    (d : DataW H) (ps : List MemPlace) (hval : R val = some (d, ps))
    (hK : ∀ w', w'.ownsMap P k R b (n + 1) (D.put kl d) → w.grownBy w' (some b) → wpList P ops Q rest (a.put o.dst undef) w') :
    wpList P ops Q (o :: rest) a w := by
  refine wpList_plain hg fun K' hK' => ?_
  obtain ⟨w', hrun, r1, r2⟩ := hown.update K ht hn hkey hval
  unfold Oper.wp
  simp [execOp, hop, hm, hx, hv, hrun, Result.andThen]
  exact hK' _ _ (hK w' r1 r2)

/-- The classes, as the map reads. -/
def clsData : DataW Unit :=
  let put (n : List UInt8) (f : Nat) (D : DataW Unit) : DataW Unit := D.put (.string n) (.lit (.int .i64 f))
  put [120, 100, 105, 103, 105, 116] 303 <| put [112, 117, 110, 99, 116] 302 <|
  put [112, 114, 105, 110, 116] 301 <| put [99, 110, 116, 114, 108] 300 <|
  put [115, 112, 97, 99, 101] 299 <| put [98, 108, 97, 110, 107] 298 <|
  put [108, 111, 119, 101, 114] 297 <| put [117, 112, 112, 101, 114] 296 <|
  put [103, 114, 97, 112, 104] 295 <| put [97, 108, 110, 117, 109] 283 <|
  put [100, 105, 103, 105, 116] 289 <| put [97, 108, 112, 104, 97] 288 <| .map []

theorem kStr : Keyed Tryz.prog 9 := Maps.string_keyed Tryz.underlying9

theorem grown_below {b B : Nat} {w w' : World} (h : w.grownBy w' (some b)) (hb : B ≤ b) (hw : B ≤ w.heap.size) : Below B w w' :=
  ⟨h.os, h.tape, h.output, h.size, fun k hk => h.block k (by omega) (by simp; omega)⟩

set_option maxHeartbeats 1600000 in
set_option maxRecDepth 100000 in
theorem classes_any (w : World) : Calls Tryz.prog 292 #[] w fun e w' => e = .returned (.map (some w.heap.size)) ∧ w'.ownsMap Tryz.prog 9 clsElem w.heap.size 12 clsData ∧ Below w.heap.size w w' := by
  have hmm := @run_makeMap Tryz.prog
  have st := fun (W : World) (n : Nat) (D : DataW Unit) (h : W.ownsMap Tryz.prog 9 clsElem w.heap.size n D) (hn : n < maxLen) (key : List UInt8) (f : Nat) (hk : key.length ≤ maxLen) =>
    World.ownsMap.update h kStr (t := 420) Tryz.underlying420 hn (key := .string ⟨key.toArray⟩) (val := .agg #[.func (.func f) #[] #[]]) (kl := .string key) (Go.WideMaps.keyOf_string_mk Tryz.underlying9 (by simpa [ByteArray.size] using hk)) (clsElem_fn f)
  have o0 := World.ownsMap_made w Tryz.prog 9 clsElem
  obtain ⟨w1, e1, o1, g1⟩ := st _ 0 _ o0 (by decide) [97, 108, 112, 104, 97] 288 (by decide)
  obtain ⟨w2, e2, o2, g2⟩ := st _ 1 _ o1 (by decide) [100, 105, 103, 105, 116] 289 (by decide)
  obtain ⟨w3, e3, o3, g3⟩ := st _ 2 _ o2 (by decide) [97, 108, 110, 117, 109] 283 (by decide)
  obtain ⟨w4, e4, o4, g4⟩ := st _ 3 _ o3 (by decide) [103, 114, 97, 112, 104] 295 (by decide)
  obtain ⟨w5, e5, o5, g5⟩ := st _ 4 _ o4 (by decide) [117, 112, 112, 101, 114] 296 (by decide)
  obtain ⟨w6, e6, o6, g6⟩ := st _ 5 _ o5 (by decide) [108, 111, 119, 101, 114] 297 (by decide)
  obtain ⟨w7, e7, o7, g7⟩ := st _ 6 _ o6 (by decide) [98, 108, 97, 110, 107] 298 (by decide)
  obtain ⟨w8, e8, o8, g8⟩ := st _ 7 _ o7 (by decide) [115, 112, 97, 99, 101] 299 (by decide)
  obtain ⟨w9, e9, o9, g9⟩ := st _ 8 _ o8 (by decide) [99, 110, 116, 114, 108] 300 (by decide)
  obtain ⟨w10, e10, o10, g10⟩ := st _ 9 _ o9 (by decide) [112, 114, 105, 110, 116] 301 (by decide)
  obtain ⟨w11, e11, o11, g11⟩ := st _ 10 _ o10 (by decide) [112, 117, 110, 99, 116] 302 (by decide)
  obtain ⟨w12, e12, o12, g12⟩ := st _ 11 _ o11 (by decide) [120, 100, 105, 103, 105, 116] 303 (by decide)
  have HO := Lib.hid o12
  have HB : Hid (Below w.heap.size w w12) := by
    have h0 : Below w.heap.size w (w.alloc (.map #[] 0)) := (Below.refl _ _).alloc (Nat.le_refl _) _
    show Below _ _ _
    have t := fun {W W' : World} (h : Below w.heap.size w W) (g : W.grownBy W' (some w.heap.size)) => h.trans (grown_below g (Nat.le_refl _) h.size)
    exact t (t (t (t (t (t (t (t (t (t (t (t h0 g1) g2) g3) g4) g5) g6) g7) g8) g9) g10) g11) g12
  clear st o0 o1 g1 o2 g2 o3 g3 o4 g4 o5 g5 o6 g6 o7 g7 o8 g8 o9 g9 o10 g10 o11 g11 o12 g12
  go_enter Tryz.func292, Tryz.ntmps292
  go_wp2_with fail
  go_ret
  exact ⟨rfl, HO.out, HB.out⟩

/-- What a look-up among the classes finds. -/
def ClsLook (name : List UInt8) (z : DataW Unit) : Option Rx.Has → Prop
  | none => Maps.has clsData (.string name) = false ∧ clsData.atKey (.string name) z = z
  | some k => Maps.has clsData (.string name) = true ∧ ∃ n : Nat, clsData.atKey (.string name) z = .lit (.int .i64 n) ∧ (∀ args w, (callFunc n args).run Tryz.prog w = .ok (.enter n args) w) ∧ ∀ (c : UInt8) (w : World), Calls Tryz.prog n #[.int .u8 c.toNat] w fun e w' => e = .returned (.bool (k c)) ∧ w = w'

set_option maxRecDepth 100000 in
theorem cls_look (name : List UInt8) (z : DataW Unit) : ClsLook name z (Rx.classOf name) := by
  by_cases h0 : name = [97, 108, 112, 104, 97]
  · subst h0
    exact ⟨rfl, 288, rfl, fun args w => rfl, fun c w => letter_any c w⟩
  by_cases h1 : name = [100, 105, 103, 105, 116]
  · subst h1
    exact ⟨rfl, 289, rfl, fun args w => rfl, fun c w => digit_any c w⟩
  by_cases h2 : name = [97, 108, 110, 117, 109]
  · subst h2
    exact ⟨rfl, 283, rfl, fun args w => rfl, fun c w => alnum_any c w⟩
  by_cases h3 : name = [103, 114, 97, 112, 104]
  · subst h3
    exact ⟨rfl, 295, rfl, fun args w => rfl, fun c w => graph_any c w⟩
  by_cases h4 : name = [117, 112, 112, 101, 114]
  · subst h4
    exact ⟨rfl, 296, rfl, fun args w => rfl, fun c w => upper_any c w⟩
  by_cases h5 : name = [108, 111, 119, 101, 114]
  · subst h5
    exact ⟨rfl, 297, rfl, fun args w => rfl, fun c w => lower_any c w⟩
  by_cases h6 : name = [98, 108, 97, 110, 107]
  · subst h6
    exact ⟨rfl, 298, rfl, fun args w => rfl, fun c w => blank_any c w⟩
  by_cases h7 : name = [115, 112, 97, 99, 101]
  · subst h7
    exact ⟨rfl, 299, rfl, fun args w => rfl, fun c w => space_any c w⟩
  by_cases h8 : name = [99, 110, 116, 114, 108]
  · subst h8
    exact ⟨rfl, 300, rfl, fun args w => rfl, fun c w => cntrl_any c w⟩
  by_cases h9 : name = [112, 114, 105, 110, 116]
  · subst h9
    exact ⟨rfl, 301, rfl, fun args w => rfl, fun c w => print_any c w⟩
  by_cases h10 : name = [112, 117, 110, 99, 116]
  · subst h10
    exact ⟨rfl, 302, rfl, fun args w => rfl, fun c w => punct_any c w⟩
  by_cases h11 : name = [120, 100, 105, 103, 105, 116]
  · subst h11
    exact ⟨rfl, 303, rfl, fun args w => rfl, fun c w => xdigit_any c w⟩
  have e : Rx.classOf name = none := by
    unfold Rx.classOf
    rw [if_neg h0, if_neg h1, if_neg h2, if_neg h3, if_neg h4, if_neg h5, if_neg h6, if_neg h7, if_neg h8, if_neg h9, if_neg h10, if_neg h11]
  rw [e]
  have ne : ∀ {l : List UInt8}, ¬ name = l → Lit.string name ≠ Lit.string l := fun h h2 => h (Lit.string.inj h2)
  show Maps.has clsData (.string name) = false ∧ clsData.atKey (.string name) z = z
  unfold clsData
  simp only []
  constructor
  · rw [Maps.has_put_other (ne h11), Maps.has_put_other (ne h10), Maps.has_put_other (ne h9), Maps.has_put_other (ne h8), Maps.has_put_other (ne h7), Maps.has_put_other (ne h6), Maps.has_put_other (ne h5), Maps.has_put_other (ne h4), Maps.has_put_other (ne h3), Maps.has_put_other (ne h2), Maps.has_put_other (ne h1), Maps.has_put_other (ne h0)]
    rfl
  · rw [Maps.atKey_put_other (ne h11), Maps.atKey_put_other (ne h10), Maps.atKey_put_other (ne h9), Maps.atKey_put_other (ne h8), Maps.atKey_put_other (ne h7), Maps.atKey_put_other (ne h6), Maps.atKey_put_other (ne h5), Maps.atKey_put_other (ne h4), Maps.atKey_put_other (ne h3), Maps.atKey_put_other (ne h2), Maps.atKey_put_other (ne h1), Maps.atKey_put_other (ne h0)]
    rfl

theorem clsElem_nil {v : Value} {ps : List MemPlace} (h : clsElem v = some (.lit (.int .i64 (-1)), ps)) : v = .agg #[.nilFunc] := by
  unfold clsElem at h
  split at h
  · rename_i cs
    unfold clsList at h
    split at h
    · split at h
      · simp only [Option.some.injEq, Prod.mk.injEq, DataW.lit.injEq, Lit.int.injEq, true_and] at h
        omega
      · cases h
    · rename_i e
      exact congrArg Value.agg (Array.toList_inj.1 e)
    · cases h
  · cases h

end Go.Proofs.YtfgmmaahbngonaaGreatDoor.Rg

/-
  A reader with the library's variables; the walks of named, class. Condition: what is told lies in memory.
-/
namespace Go.Proofs.YtfgmmaahbngonaaGreatDoor.Rg
open Go.RowKit Go.Shelf Go.Maps

theorem hasPrefix_any (s p : Rx.Bytes) (w : World) : Calls Tryz.prog 245 #[.string ⟨s.toArray⟩, .string ⟨p.toArray⟩] w fun e w' => e = .returned (.bool (p.isPrefixOf s)) ∧ w' = w :=
  Any.strings_HasPrefix Tryz.lays99 ⟨s.toArray⟩ ⟨p.toArray⟩ w

theorem cat2 (a b : Rx.Bytes) : (⟨a.toArray⟩ : ByteArray) ++ ⟨b.toArray⟩ = ⟨(a ++ b).toArray⟩ := by
  apply ByteArray.ext; simp

def NamedPost (r : Nat) (k : UInt8) (s : Rx.Bytes) (ext fold : Bool) (e : Ending) (w' : World) : Prop := match Rx.named k s with
  | some (c, s') => e = .returned (.tuple #[.int .u8 c.toNat, .bool true]) ∧ RdAt w' r s' ext fold
  | none => e = .returned (.tuple #[.int .u8 0, .bool false]) ∧ RdAt w' r s ext fold

theorem named_short {k : UInt8} {s : Rx.Bytes} (h : s.length < 5) : Rx.named k s = none := by
  unfold Rx.named
  split
  · simp at h; omega
  · rfl

set_option maxHeartbeats 1600000 in
theorem named_any (r : Nat) (k : UInt8) (s : Rx.Bytes) (ext fold : Bool) (w : World) (h : RdAt w r s ext fold) :
    Calls Tryz.prog 287 #[.pointer (some ⟨r, 0, none⟩), .string ⟨#[k]⟩] w fun e w' => NamedPost r k s ext fold e w' ∧ Kept (· = r) w w' := by
  have c0 : w.cell? ⟨r, 0, none⟩ = some (.string ⟨s.toArray⟩) := Blk.cell h 0 rfl
  have f0 := h.free 0
  have hp := hasPrefix_any s [91, k]
  have e1 : (⟨#[91]⟩ : ByteArray) ++ ⟨#[k]⟩ = ⟨[91, k].toArray⟩ := cat2 [91] [k]
  have e2 : (⟨#[k]⟩ : ByteArray) ++ ⟨#[93]⟩ = ⟨[k, 93].toArray⟩ := cat2 [k] [93]
  by_cases h5 : s.length < 5
  · have HN := Lib.hid (named_short (k := k) h5)
    have hd : decide ((5 : Int) ≤ (s.length : Int)) = false := by simp; omega
    clear e2 hp
    go_enter Tryz.func287, Tryz.ntmps287
    go_wp2_with fail
    go_ret2
    unfold NamedPost
    rw [HN.out]
    exact ⟨⟨rfl, h⟩, Kept.refl _ _⟩
  · obtain ⟨a, b, c, d, x, t, rfl⟩ : ∃ a b c d x t, s = a :: b :: c :: d :: x :: t := by
      rcases s with _|⟨a,_|⟨b,_|⟨c,_|⟨d,_|⟨x,t⟩⟩⟩⟩⟩ <;> simp at h5 <;> first | omega | exact ⟨_, _, _, _, _, _, rfl⟩
    clear h5
    have hd : decide ((5 : Int) ≤ (t.length : Int) + 1 + 1 + 1 + 1 + 1) = true := by simp; omega
    by_cases h1 : a = 91 ∧ b = k
    · have hpt : ([91, k] : Rx.Bytes).isPrefixOf (a :: b :: c :: d :: x :: t) = true := by obtain ⟨rfl, rfl⟩ := h1; simp
      rw [hpt] at hp
      have e3 : (⟨(a :: b :: c :: d :: x :: t).toArray⟩ : ByteArray).extract 3 5 = ⟨#[d, x]⟩ := by apply ByteArray.ext; simp [ByteArray.data_extract]
      have e4 : (⟨#[d, x]⟩ : ByteArray).toList = [d, x] := ByteArray.toList_mk [d, x]
      by_cases h2 : d = k ∧ x = 93
      · have HN : Hid (Rx.named k (a :: b :: c :: d :: x :: t) = some (c, t)) := by show _ = _; obtain ⟨rfl, rfl⟩ := h1; obtain ⟨rfl, rfl⟩ := h2; simp [Rx.named]
        have h3 : (d == k) = true := by simp [h2.1]
        have h4 : (x == 93) = true := by simp [h2.2]
        have e5 : (⟨(a :: b :: c :: d :: x :: t).toArray⟩ : ByteArray).extract 5 (t.length + 1 + 1 + 1 + 1 + 1) = ⟨t.toArray⟩ := extract_drop (a :: b :: c :: d :: x :: t) 5
        have E5 := Lib.hid e5
        have HS := Lib.hid (h.set 0 (.string ⟨t.toArray⟩))
        clear h1 h2 hpt e5
        go_enter Tryz.func287, Tryz.ntmps287
        go_wp2_with fail
        refine (hp _).mono ?_
        rintro e w' ⟨rfl, rfl⟩
        go_wp2_with fail
        go_ret2
        unfold NamedPost
        rw [HN.out]
        refine ⟨⟨rfl, ?_⟩, (Kept.refl (· = r) _).setCell (.inl rfl) 0 _⟩
        rw [E5.out]
        exact HS.out
      · have HN : Hid (Rx.named k (a :: b :: c :: d :: x :: t) = none) := by
          show _ = _
          simp only [Rx.named]
          rw [if_neg (fun h => h2 ⟨h.2.2.1, h.2.2.2⟩)]
        have h3 : ((d == k) && (x == 93)) = false := by
          rw [Bool.eq_false_iff]; intro h; apply h2; simpa using h
        clear h1 h2 hpt
        go_enter Tryz.func287, Tryz.ntmps287
        go_wp2_with fail
        refine (hp _).mono ?_
        rintro e w' ⟨rfl, rfl⟩
        go_wp2_with fail
        go_ret2
        unfold NamedPost
        rw [HN.out]
        exact ⟨⟨rfl, h⟩, Kept.refl _ _⟩
    · have HN : Hid (Rx.named k (a :: b :: c :: d :: x :: t) = none) := by
        show _ = _
        simp only [Rx.named]
        rw [if_neg (fun h => h1 ⟨h.1, h.2.1⟩)]
      have hpt : ([91, k] : Rx.Bytes).isPrefixOf (a :: b :: c :: d :: x :: t) = false := by
        rw [Bool.eq_false_iff]; intro h; apply h1
        simp at h
        exact ⟨h.1.symm, h.2.symm⟩
      rw [hpt] at hp
      clear h1 hpt
      go_enter Tryz.func287, Tryz.ntmps287
      go_wp2_with fail
      refine (hp _).mono ?_
      rintro e w' ⟨rfl, rfl⟩
      go_wp2_with fail
      go_ret2
      unfold NamedPost
      rw [HN.out]
      exact ⟨⟨rfl, h⟩, Kept.refl _ _⟩

/-! What the library's variables hold. -/
structure Glo (w : World) : Prop where
  syn : ∃ tp p, w.var? Tryz.prog "strconv.ErrSyntax" = some #[.iface tp p]
  rng : ∃ tp p, w.var? Tryz.prog "strconv.ErrRange" = some #[.iface tp p]
  mx : ∃ m, w.cell? ⟨4, 0, none⟩ = some (.int .i64 m)
  tab : Lib.TabIs Tryz.prog w "internal/strconv.uint64pow10" .u64 Lib.pow10Tab

theorem gSyn : Tryz.prog.globalNamed "strconv.ErrSyntax" = some 5 := by kernel_rfl
theorem gPow : Tryz.prog.globalNamed "internal/strconv.uint64pow10" = some 0 := by kernel_rfl
theorem gRng : Tryz.prog.globalNamed "strconv.ErrRange" = some 6 := by kernel_rfl

theorem var?_same {P : Program} {g : Nat} {W W' : World} {n : String} {cs : Array Value} (h : W'.heap[g]? = W.heap[g]?) (hg : P.globalNamed n = some g) (hv : W.var? P n = some cs) : W'.var? P n = some cs := by
  unfold World.var? at hv ⊢
  simp only [hg, Option.bind_some] at hv ⊢
  rw [h]
  exact hv

theorem Glo.kept {S : Nat → Prop} {w w' : World} (h : Glo w) (hk : Kept S w w') (hS : ∀ k, S k → 8 ≤ k) (h8 : 8 ≤ w.heap.size) : Glo w' := by
  obtain ⟨⟨t1, p1, h1⟩, ⟨t2, p2, h2⟩, ⟨m, h3⟩, h4⟩ := h
  have hb : ∀ g, g < 8 → w'.heap[g]? = w.heap[g]? := fun g hg => hk.block g (by omega) (fun hs => absurd (hS g hs) (by omega))
  refine ⟨⟨t1, p1, var?_same (hb _ (by decide)) gSyn h1⟩, ⟨t2, p2, var?_same (hb _ (by decide)) gRng h2⟩, ⟨m, ?_⟩, ?_⟩
  · have := hb 4 (by decide)
    unfold World.cell? at h3 ⊢
    simp only [this]
    exact h3
  · exact var?_same (hb _ (by decide)) gPow h4

/-- A reader, with the library's variables, of a text that is not too long. -/
structure Rd (w : World) (r : Nat) (s : Rx.Bytes) (ext fold : Bool) : Prop where
  at_ : RdAt w r s ext fold
  glo : Glo w
  hr : 8 ≤ r
  len : s.length < 1073741824

theorem Rd.lt {w : World} {r : Nat} {s : Rx.Bytes} {ext fold : Bool} (h : Rd w r s ext fold) : r < w.heap.size := h.at_.lt
theorem Rd.next {w w' : World} {r : Nat} {s s' : Rx.Bytes} {ext fold : Bool} (h : Rd w r s ext fold) {S : Nat → Prop} (hk : Kept S w w') (hS : ∀ k, S k → 8 ≤ k) (h' : RdAt w' r s' ext fold) (hl : s'.length ≤ s.length) : Rd w' r s' ext fold :=
  ⟨h', h.glo.kept hk hS (by have := h.hr; have := h.lt; omega), h.hr, Nat.lt_of_le_of_lt hl h.len⟩
theorem Rd.self {w w' : World} {r : Nat} {s s' : Rx.Bytes} {ext fold : Bool} (h : Rd w r s ext fold) (hk : Kept (· = r) w w') (h' : RdAt w' r s' ext fold) (hl : s'.length ≤ s.length) : Rd w' r s' ext fold :=
  h.next hk (fun _ e => e ▸ h.hr) h' hl

end Go.Proofs.YtfgmmaahbngonaaGreatDoor.Rg
