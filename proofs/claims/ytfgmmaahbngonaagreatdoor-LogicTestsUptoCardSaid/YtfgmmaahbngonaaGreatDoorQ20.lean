/-
  Texts of this seat put together: GW19.
-/
import Derived.Test.YtfgmmaahbngonaaGreatDoorQ19

/-
  The walk of Parse. Conditions: the text is shorter than 2^30 bytes; the library's variables hold what they hold.
-/
namespace Go.Proofs.YtfgmmaahbngonaaGreatDoor.Rg
open Go.RowKit Go.Shelf Go.Maps

/-- An expression in memory. -/
def ReAt (w : World) (B q : Nat) (n : Rx.Nd) : Prop := ∃ p, Blk w q #[ptrV p] 317 ∧ B ≤ q ∧ NdAt w B p n

theorem ReAt.kept {S : Nat → Prop} {w w' : World} {B q : Nat} {n : Rx.Nd} (h : ReAt w B q n) (hk : Kept S w w') (hS : ∀ k, B ≤ k → ¬ S k) : ReAt w' B q n := by
  obtain ⟨p, hb, hq, hn⟩ := h
  exact ⟨p, hb.kept hk (hS q hq), hq, hn.kept hk hS⟩
theorem ReAt.keep {w w' : World} {B B' q : Nat} {n : Rx.Nd} (h : ReAt w B q n) (hb : Below w.heap.size w w') (hB : B' ≤ B) : ReAt w' B' q n := by
  obtain ⟨p, h1, hq, hn⟩ := h.kept (Kept.of_below (S := fun _ => False) hb) (fun _ _ h => h)
  exact ⟨p, h1, Nat.le_trans hB hq, hn.mono fun k hk => Nat.le_trans hB hk⟩

/-- What Parse hands back and leaves. -/
def ParsePost (B : Nat) (x : Option Rx.Nd) (e : Ending) (w' : World) : Prop := match x with
  | none => e = .returned (.tuple #[.pointer none, .int .i64 20])
  | some n => if 10000 < n.size then e = .returned (.tuple #[.pointer none, .int .i64 12])
    else ∃ q, e = .returned (.tuple #[.pointer (some ⟨q, 0, none⟩), .int .i64 0]) ∧ ReAt w' B q n

set_option maxHeartbeats 1600000 in
set_option maxRecDepth 100000 in
theorem Parse_any (s : Rx.Bytes) (ext fold : Bool) (w : World) (hg : Glo w) (h8 : 8 ≤ w.heap.size) (hl : s.length < 1073741824) :
    Calls Tryz.prog 143 #[.string ⟨s.toArray⟩, .bool ext, .bool fold] w fun e w' => ParsePost w.heap.size (Rx.read s ext fold) e w' ∧ Below w.heap.size w w' := by
  have HP : Hid (∀ x, Rx.read s ext fold = x → ∀ e w', ParsePost w.heap.size x e w' → ParsePost w.heap.size (Rx.read s ext fold) e w') := by
    rintro x rfl e w' h; exact h
  generalize hpost : ParsePost w.heap.size (Rx.read s ext fold) = POST at HP ⊢
  clear hpost
  have hk : Kept (· = w.heap.size) w (w.alloc (.cells #[.string ⟨s.toArray⟩, .bool ext, .bool fold] 313)) := (Kept.refl _ _).alloc _
  have hsz : (w.alloc (.cells #[.string ⟨s.toArray⟩, .bool ext, .bool fold] 313)).heap.size = w.heap.size + 1 := by simp
  have hr : Rd (w.alloc (.cells #[.string ⟨s.toArray⟩, .bool ext, .bool fold] 313)) w.heap.size s ext fold :=
    ⟨Blk.new _ _ _, hg.kept hk (fun k e => e ▸ h8) h8, h8, hl⟩
  have hread := read_any _ s ext fold _ hr
  go_enter Tryz.func143, Tryz.ntmps143
  go_wp2_with fail
  generalize w.alloc (.cells #[.string ⟨s.toArray⟩, .bool ext, .bool fold] 313) = w1 at *
  have below_of : ∀ w', Kept (· = w.heap.size) w1 w' → Below w.heap.size w w' := fun w' h => ((hk.trans h).mono (T := fun _ => False) fun k hk e => by omega).below
  have HBL := Lib.hid below_of
  clear below_of
  refine hread.mono ?_
  rintro e w2 ⟨h1, hk2⟩
  clear hread
  cases hx : Rx.read s ext fold with
  | none =>
    rw [hx] at h1
    have h1 : e = _ := h1
    subst h1
    have HX := Lib.hid hx
    clear hx
    go_wp2_with fail
    go_ret2
    exact ⟨HP.out _ HX.out _ _ rfl, HBL.out _ hk2⟩
  | some n =>
    rw [hx] at h1
    obtain ⟨p, rfl, hn⟩ := h1
    have HX := Lib.hid hx
    have hsize := size_any hn
    clear hx
    by_cases hbig : 10000 < n.size
    · have hbig2 : (10000 : Int) < (n.size : Int) := by omega
      have HB := Lib.hid hbig
      clear hbig
      go_wp2_with fail
      refine hsize.mono ?_
      rintro e w3 ⟨rfl, rfl⟩
      go_wp2_with fail
      go_ret2
      refine ⟨HP.out _ HX.out _ _ ?_, HBL.out _ hk2⟩
      show if _ then _ else _
      rw [if_pos HB.out]
      rfl
    · have hbig2 : ¬ ((10000 : Int) < (n.size : Int)) := by omega
      have HB := Lib.hid hbig
      clear hbig
      go_wp2_with fail
      refine hsize.mono ?_
      rintro e w3 ⟨rfl, rfl⟩
      go_wp2_with fail
      go_ret2
      refine ⟨HP.out _ HX.out _ _ ?_, (HBL.out _ hk2).alloc (by have := (HBL.out _ hk2).size; omega) _⟩
      show if _ then _ else _
      rw [if_neg HB.out]
      have hb3 := (HBL.out _ hk2).size
      exact ⟨_, rfl, p, Blk.new _ _ _, hb3, (hn.kept ((Kept.refl (fun _ => False) _).alloc _) fun _ _ h => h).mono fun k hk => by omega⟩

end Go.Proofs.YtfgmmaahbngonaaGreatDoor.Rg
