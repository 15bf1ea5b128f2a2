/-
  What a reader leaves alone; the walks of take, must, next. Condition: the reader lies in memory as it is told.
-/
import Derived.Test.YthdkbbkkijdhfaaGreatDoorW1
namespace Go.Proofs.YthdkbbkkijdhfaaGreatDoor
open Go.RowKit Go.Shelf

/-- Of what was there nothing has turned, but for some blocks. -/
structure Kept (S : Nat → Prop) (w w' : World) : Prop where
  os : w'.os = w.os
  tape : w'.tape = w.tape
  output : w'.output = w.output
  size : w.heap.size ≤ w'.heap.size
  block : ∀ k, k < w.heap.size → ¬ S k → w'.heap[k]? = w.heap[k]?

theorem Kept.refl (S : Nat → Prop) (w : World) : Kept S w w := ⟨rfl, rfl, rfl, Nat.le_refl _, fun _ _ _ => rfl⟩
theorem Kept.of_below {S : Nat → Prop} {w w' : World} (h : Below w.heap.size w w') : Kept S w w' := ⟨h.os, h.tape, h.output, h.size, fun k hk _ => h.block k hk⟩
theorem Kept.trans {S : Nat → Prop} {w w' w'' : World} (h : Kept S w w') (h2 : Kept S w' w'') : Kept S w w'' :=
  ⟨h2.os.trans h.os, h2.tape.trans h.tape, h2.output.trans h.output, Nat.le_trans h.size h2.size, fun k hk hs => (h2.block k (Nat.lt_of_lt_of_le hk h.size) hs).trans (h.block k hk hs)⟩
/-- Whatever the second part turns beside lies in new memory. -/
theorem Kept.trans' {S T : Nat → Prop} {w w' w'' : World} (h : Kept S w w') (h2 : Kept T w' w'') (hT : ∀ k, k < w.heap.size → T k → S k) : Kept S w w'' :=
  ⟨h2.os.trans h.os, h2.tape.trans h.tape, h2.output.trans h.output, Nat.le_trans h.size h2.size, fun k hk hs => (h2.block k (Nat.lt_of_lt_of_le hk h.size) fun ht => hs (hT k hk ht)).trans (h.block k hk hs)⟩
theorem Kept.mono {S T : Nat → Prop} {w w' : World} (h : Kept S w w') (hT : ∀ k, k < w.heap.size → S k → T k) : Kept T w w' :=
  ⟨h.os, h.tape, h.output, h.size, fun k hk hs => h.block k hk fun ht => hs (hT k hk ht)⟩
theorem Kept.alloc {S : Nat → Prop} {w w' : World} (h : Kept S w w') (o : Obj) : Kept S w (w'.alloc o) :=
  h.trans (Kept.of_below ((Below.refl _ _).alloc (Nat.le_refl _) _))
theorem Kept.drew {S : Nat → Prop} {w w' : World} (h : Kept S w w') : Kept S w w'.drew := ⟨h.os, h.tape, h.output, h.size, h.block⟩
theorem Kept.below {w w' : World} (h : Kept (fun _ => False) w w') : Below w.heap.size w w' := ⟨h.os, h.tape, h.output, h.size, fun k hk => h.block k hk id⟩
theorem Blk.kept {S : Nat → Prop} {w w' : World} {b : Nat} {cs : Array Value} {t : TypeId} (h : Blk w b cs t) (hk : Kept S w w') (hS : ¬ S b) : Blk w' b cs t := (hk.block b h.lt hS).trans h

theorem Kept.setCell {S : Nat → Prop} {w w' : World} (h : Kept S w w') {b : Nat} (hb : S b ∨ w.heap.size ≤ b) (i : Nat) (v : Value) : Kept S w (w'.setCell ⟨b, i, none⟩ v) :=
  ⟨h.os, h.tape, h.output, by simpa [World.setCell] using h.size, fun k hk hs => (Below.heap_setCell w' ⟨b, i, none⟩ v k (by
    rintro rfl
    rcases hb with hb | hb
    · exact hs hb
    · have hb' : w.heap.size ≤ k := hb
      omega)).trans (h.block k hk hs)⟩

/-- A reader. -/
def RdAt (w : World) (r : Nat) (s : Rx.Bytes) (ext fold : Bool) : Prop := Blk w r #[.string ⟨s.toArray⟩, .bool ext, .bool fold] 73

/-- What take hands back and leaves. -/
def TakePost (r : Nat) (t s : Rx.Bytes) (ext fold : Bool) (e : Ending) (w' : World) : Prop := match Rx.take t s with
  | some s' => e = .returned (.bool true) ∧ RdAt w' r s' ext fold
  | none => e = .returned (.bool false) ∧ RdAt w' r s ext fold

theorem take_any (r : Nat) (t s : Rx.Bytes) (ext fold : Bool) (w : World) (h : RdAt w r s ext fold) :
    Calls Tryz.prog 66 #[.pointer (some ⟨r, 0, none⟩), .string ⟨t.toArray⟩] w fun e w' => TakePost r t s ext fold e w' ∧ Kept (· = r) w w' := by
  have hcp := Any.strings_CutPrefix Tryz.lays103 ⟨s.toArray⟩ ⟨t.toArray⟩
  have c0 : w.cell? ⟨r, 0, none⟩ = some (.string ⟨s.toArray⟩) := Blk.cell h 0 rfl
  have f0 := h.free 0
  go_enter Tryz.func66, Tryz.ntmps66
  go_wp2_with fail
  refine (hcp _).mono ?_
  rintro e w' ⟨rfl, rfl⟩
  clear hcp
  have hv : ∀ e w', TakePost r t s ext fold e w' = if Lib.hasPrefix s t = true then e = .returned (.bool true) ∧ RdAt w' r (Lib.trimPrefix s t) ext fold else e = .returned (.bool false) ∧ RdAt w' r s ext fold := by
    intro e w'
    unfold TakePost Rx.take Lib.trimPrefix Lib.hasPrefix
    cases t.isPrefixOf s <;> rfl
  have HV := Lib.hid hv; clear hv
  have H := Lib.hid h; clear h
  generalize Lib.hasPrefix s t = is at *
  generalize Lib.trimPrefix s t = u at *
  cases is with
  | true =>
    go_wp2_with fail
    go_ret
    refine ⟨?_, (Kept.refl (· = r) _).setCell (.inl rfl) 0 _⟩
    rw [HV.out, if_pos (by trivial)]
    exact ⟨rfl, H.out.set 0 _⟩
  | false =>
    go_wp2_with fail
    go_ret
    refine ⟨?_, Kept.refl _ _⟩
    rw [HV.out, if_neg (by decide)]
    exact ⟨rfl, H.out⟩

/-- must: it stands here, or it gives up. -/
def MustPost (r : Nat) (t s : Rx.Bytes) (ext fold : Bool) (e : Ending) (w' : World) : Prop := match Rx.take t s with
  | some s' => e = .returned (.tuple #[]) ∧ RdAt w' r s' ext fold
  | none => e = .panicked [{ v := brokenV, recovered := false }]

theorem must_any (r : Nat) (t s : Rx.Bytes) (ext fold : Bool) (w : World) (h : RdAt w r s ext fold) :
    Calls Tryz.prog 86 #[.pointer (some ⟨r, 0, none⟩), .string ⟨t.toArray⟩] w fun e w' => MustPost r t s ext fold e w' ∧ Kept (· = r) w w' := by
  have ht := take_any r t s ext fold w h
  unfold TakePost at ht
  unfold MustPost
  cases hx : Rx.take t s with
  | some s' =>
    rw [hx] at ht
    go_enter Tryz.func86, Tryz.ntmps86
    go_wp2_with fail
    refine ht.mono ?_
    rintro e w' ⟨⟨rfl, hr⟩, hk⟩
    go_wp2_with fail
    go_end0
    exact ⟨⟨rfl, hr⟩, hk⟩
  | none =>
    rw [hx] at ht
    go_enter Tryz.func86, Tryz.ntmps86
    go_wp2_with fail
    refine ht.mono ?_
    rintro e w' ⟨⟨rfl, hr⟩, hk⟩
    go_wp2_with fail
    refine (fail_any _).mono ?_
    rintro e w'' ⟨rfl, rfl⟩
    go_wp2_with fail
    exact ⟨rfl, rfl, hk⟩

/-- next: a byte, or it gives up. -/
def NextPost (r : Nat) (s : Rx.Bytes) (ext fold : Bool) (e : Ending) (w' : World) : Prop := match s with
  | c :: s' => e = .returned (.int .u8 c.toNat) ∧ RdAt w' r s' ext fold
  | [] => e = .panicked [{ v := brokenV, recovered := false }]

theorem next_any (r : Nat) (s : Rx.Bytes) (ext fold : Bool) (w : World) (h : RdAt w r s ext fold) :
    Calls Tryz.prog 68 #[.pointer (some ⟨r, 0, none⟩)] w fun e w' => NextPost r s ext fold e w' ∧ Kept (· = r) w w' := by
  have c0 : w.cell? ⟨r, 0, none⟩ = some (.string ⟨s.toArray⟩) := Blk.cell h 0 rfl
  have f0 := h.free 0
  unfold NextPost
  cases s with
  | nil =>
    go_enter Tryz.func68, Tryz.ntmps68
    go_wp2_with fail
    refine (fail_any _).mono ?_
    rintro e w'' ⟨rfl, rfl⟩
    go_wp2_with fail
    exact ⟨rfl, rfl, Kept.refl _ _⟩
  | cons c s' =>
    go_enter Tryz.func68, Tryz.ntmps68
    go_wp2_with fail
    go_ret
    refine ⟨⟨rfl, ?_⟩, (Kept.refl (· = r) _).setCell (.inl rfl) 0 _⟩
    have hs := Blk.set h 0 (.string ⟨s'.toArray⟩)
    rw [show (⟨(c :: s').toArray⟩ : ByteArray).extract 1 (s'.length + 1) = ⟨s'.toArray⟩ from extract_drop (c :: s') 1]
    exact hs

end Go.Proofs.YthdkbbkkijdhfaaGreatDoor
