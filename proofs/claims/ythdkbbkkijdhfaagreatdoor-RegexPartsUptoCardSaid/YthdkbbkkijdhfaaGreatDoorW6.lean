/-
  A reader with the library's variables; the walks of named, class. Condition: what is told lies in memory.
-/
import Derived.Test.YthdkbbkkijdhfaaGreatDoorW5
import Derived.Lib.IndexMore
import Derived.Maps.OwnOps
import Derived.Lib.LaidTab
import Derived.Shelf.Strconv.Itoa4
namespace Go.Proofs.YthdkbbkkijdhfaaGreatDoor
open Go.RowKit Go.Shelf Go.Maps

theorem hasPrefix_any (s p : Rx.Bytes) (w : World) : Calls Tryz.prog 67 #[.string ⟨s.toArray⟩, .string ⟨p.toArray⟩] w fun e w' => e = .returned (.bool (p.isPrefixOf s)) ∧ w' = w :=
  Any.strings_HasPrefix Tryz.lays99 ⟨s.toArray⟩ ⟨p.toArray⟩ w

theorem cat2 (a b : Rx.Bytes) : (⟨a.toArray⟩ : ByteArray) ++ ⟨b.toArray⟩ = ⟨(a ++ b).toArray⟩ := by
  apply ByteArray.ext; simp

def NamedPost (r : Nat) (k : UInt8) (s : Rx.Bytes) (ext fold : Bool) (e : Ending) (w' : World) : Prop := match Rx.named k s with
  | some (c, s') => e = .returned (.tuple #[.int .u8 c.toNat, .bool true]) ∧ RdAt w' r s' ext fold
  | none => e = .returned (.tuple #[.int .u8 0, .bool false]) ∧ RdAt w' r s ext fold

theorem named_short {k : UInt8} {s : Rx.Bytes} (h : s.length < 5) : Rx.named k s = none := by
  unfold Rx.named
  split
  · simp at h; omega
  · rfl

set_option maxHeartbeats 1600000 in
theorem named_any (r : Nat) (k : UInt8) (s : Rx.Bytes) (ext fold : Bool) (w : World) (h : RdAt w r s ext fold) :
    Calls Tryz.prog 115 #[.pointer (some ⟨r, 0, none⟩), .string ⟨#[k]⟩] w fun e w' => NamedPost r k s ext fold e w' ∧ Kept (· = r) w w' := by
  have c0 : w.cell? ⟨r, 0, none⟩ = some (.string ⟨s.toArray⟩) := Blk.cell h 0 rfl
  have f0 := h.free 0
  have hp := hasPrefix_any s [91, k]
  have e1 : (⟨#[91]⟩ : ByteArray) ++ ⟨#[k]⟩ = ⟨[91, k].toArray⟩ := cat2 [91] [k]
  have e2 : (⟨#[k]⟩ : ByteArray) ++ ⟨#[93]⟩ = ⟨[k, 93].toArray⟩ := cat2 [k] [93]
  by_cases h5 : s.length < 5
  · have HN := Lib.hid (named_short (k := k) h5)
    have hd : decide ((5 : Int) ≤ (s.length : Int)) = false := by simp; omega
    clear e2 hp
    go_enter Tryz.func115, Tryz.ntmps115
    go_wp2_with fail
    go_ret2
    unfold NamedPost
    rw [HN.out]
    exact ⟨⟨rfl, h⟩, Kept.refl _ _⟩
  · obtain ⟨a, b, c, d, x, t, rfl⟩ : ∃ a b c d x t, s = a :: b :: c :: d :: x :: t := by
      rcases s with _|⟨a,_|⟨b,_|⟨c,_|⟨d,_|⟨x,t⟩⟩⟩⟩⟩ <;> simp at h5 <;> first | omega | exact ⟨_, _, _, _, _, _, rfl⟩
    clear h5
    have hd : decide ((5 : Int) ≤ (t.length : Int) + 1 + 1 + 1 + 1 + 1) = true := by simp; omega
    by_cases h1 : a = 91 ∧ b = k
    · have hpt : ([91, k] : Rx.Bytes).isPrefixOf (a :: b :: c :: d :: x :: t) = true := by obtain ⟨rfl, rfl⟩ := h1; simp
      rw [hpt] at hp
      have e3 : (⟨(a :: b :: c :: d :: x :: t).toArray⟩ : ByteArray).extract 3 5 = ⟨#[d, x]⟩ := by apply ByteArray.ext; simp [ByteArray.data_extract]
      have e4 : (⟨#[d, x]⟩ : ByteArray).toList = [d, x] := ByteArray.toList_mk [d, x]
      by_cases h2 : d = k ∧ x = 93
      · have HN : Hid (Rx.named k (a :: b :: c :: d :: x :: t) = some (c, t)) := by show _ = _; obtain ⟨rfl, rfl⟩ := h1; obtain ⟨rfl, rfl⟩ := h2; simp [Rx.named]
        have h3 : (d == k) = true := by simp [h2.1]
        have h4 : (x == 93) = true := by simp [h2.2]
        have e5 : (⟨(a :: b :: c :: d :: x :: t).toArray⟩ : ByteArray).extract 5 (t.length + 1 + 1 + 1 + 1 + 1) = ⟨t.toArray⟩ := extract_drop (a :: b :: c :: d :: x :: t) 5
        have E5 := Lib.hid e5
        have HS := Lib.hid (h.set 0 (.string ⟨t.toArray⟩))
        clear h1 h2 hpt e5
        go_enter Tryz.func115, Tryz.ntmps115
        go_wp2_with fail
        refine (hp _).mono ?_
        rintro e w' ⟨rfl, rfl⟩
        go_wp2_with fail
        go_ret2
        unfold NamedPost
        rw [HN.out]
        refine ⟨⟨rfl, ?_⟩, (Kept.refl (· = r) _).setCell (.inl rfl) 0 _⟩
        rw [E5.out]
        exact HS.out
      · have HN : Hid (Rx.named k (a :: b :: c :: d :: x :: t) = none) := by
          show _ = _
          simp only [Rx.named]
          rw [if_neg (fun h => h2 ⟨h.2.2.1, h.2.2.2⟩)]
        have h3 : ((d == k) && (x == 93)) = false := by
          rw [Bool.eq_false_iff]; intro h; apply h2; simpa using h
        clear h1 h2 hpt
        go_enter Tryz.func115, Tryz.ntmps115
        go_wp2_with fail
        refine (hp _).mono ?_
        rintro e w' ⟨rfl, rfl⟩
        go_wp2_with fail
        go_ret2
        unfold NamedPost
        rw [HN.out]
        exact ⟨⟨rfl, h⟩, Kept.refl _ _⟩
    · have HN : Hid (Rx.named k (a :: b :: c :: d :: x :: t) = none) := by
        show _ = _
        simp only [Rx.named]
        rw [if_neg (fun h => h1 ⟨h.1, h.2.1⟩)]
      have hpt : ([91, k] : Rx.Bytes).isPrefixOf (a :: b :: c :: d :: x :: t) = false := by
        rw [Bool.eq_false_iff]; intro h; apply h1
        simp at h
        exact ⟨h.1.symm, h.2.symm⟩
      rw [hpt] at hp
      clear h1 hpt
      go_enter Tryz.func115, Tryz.ntmps115
      go_wp2_with fail
      refine (hp _).mono ?_
      rintro e w' ⟨rfl, rfl⟩
      go_wp2_with fail
      go_ret2
      unfold NamedPost
      rw [HN.out]
      exact ⟨⟨rfl, h⟩, Kept.refl _ _⟩

/-! What the library's variables hold. -/
structure Glo (w : World) : Prop where
  syn : ∃ tp p, w.var? Tryz.prog "strconv.ErrSyntax" = some #[.iface tp p]
  rng : ∃ tp p, w.var? Tryz.prog "strconv.ErrRange" = some #[.iface tp p]
  mx : ∃ m, w.cell? ⟨1, 0, none⟩ = some (.int .i64 m)
  tab : Lib.TabIs Tryz.prog w "internal/strconv.uint64pow10" .u64 Lib.pow10Tab
  tz : w.cell? ⟨3, 15, none⟩ = some (.int .u8 4)

theorem gSyn : Tryz.prog.globalNamed "strconv.ErrSyntax" = some 6 := by kernel_rfl
theorem gPow : Tryz.prog.globalNamed "internal/strconv.uint64pow10" = some 0 := by kernel_rfl
theorem gRng : Tryz.prog.globalNamed "strconv.ErrRange" = some 7 := by kernel_rfl

theorem var?_same {P : Program} {g : Nat} {W W' : World} {n : String} {cs : Array Value} (h : W'.heap[g]? = W.heap[g]?) (hg : P.globalNamed n = some g) (hv : W.var? P n = some cs) : W'.var? P n = some cs := by
  unfold World.var? at hv ⊢
  simp only [hg, Option.bind_some] at hv ⊢
  rw [h]
  exact hv

theorem Glo.kept {S : Nat → Prop} {w w' : World} (h : Glo w) (hk : Kept S w w') (hS : ∀ k, S k → 8 ≤ k) (h8 : 8 ≤ w.heap.size) : Glo w' := by
  obtain ⟨⟨t1, p1, h1⟩, ⟨t2, p2, h2⟩, ⟨m, h3⟩, h4, h5⟩ := h
  have hb : ∀ g, g < 8 → w'.heap[g]? = w.heap[g]? := fun g hg => hk.block g (by omega) (fun hs => absurd (hS g hs) (by omega))
  refine ⟨⟨t1, p1, var?_same (hb _ (by decide)) gSyn h1⟩, ⟨t2, p2, var?_same (hb _ (by decide)) gRng h2⟩, ⟨m, ?_⟩, ?_, ?_⟩
  · have := hb 1 (by decide)
    unfold World.cell? at h3 ⊢
    simp only [this]
    exact h3
  · exact var?_same (hb _ (by decide)) gPow h4
  · have := hb 3 (by decide)
    unfold World.cell? at h5 ⊢
    simp only [this]
    exact h5

/-- A reader, with the library's variables, of a text that is not too long. -/
structure Rd (w : World) (r : Nat) (s : Rx.Bytes) (ext fold : Bool) : Prop where
  at_ : RdAt w r s ext fold
  glo : Glo w
  hr : 8 ≤ r
  len : s.length < 1073741824

theorem Rd.lt {w : World} {r : Nat} {s : Rx.Bytes} {ext fold : Bool} (h : Rd w r s ext fold) : r < w.heap.size := h.at_.lt
theorem Rd.next {w w' : World} {r : Nat} {s s' : Rx.Bytes} {ext fold : Bool} (h : Rd w r s ext fold) {S : Nat → Prop} (hk : Kept S w w') (hS : ∀ k, S k → 8 ≤ k) (h' : RdAt w' r s' ext fold) (hl : s'.length ≤ s.length) : Rd w' r s' ext fold :=
  ⟨h', h.glo.kept hk hS (by have := h.hr; have := h.lt; omega), h.hr, Nat.lt_of_le_of_lt hl h.len⟩
theorem Rd.self {w w' : World} {r : Nat} {s s' : Rx.Bytes} {ext fold : Bool} (h : Rd w r s ext fold) (hk : Kept (· = r) w w') (h' : RdAt w' r s' ext fold) (hl : s'.length ≤ s.length) : Rd w' r s' ext fold :=
  h.next hk (fun _ e => e ▸ h.hr) h' hl

end Go.Proofs.YthdkbbkkijdhfaaGreatDoor
