/-
  Texts of this seat put together: W6, W7.
-/
import Derived.Test.YthdkbbkkijdhfaaGreatDoorH5
import Derived.Lib.IndexMore
import Derived.Maps.OwnOps
import Derived.Lib.LaidTab
import Derived.Shelf.Strconv.Itoa4
import Derived.Deep.RegionWith
import Derived.Laws.EntriesVeiled

/-
  A reader with the library's variables; the walks of named, class. Condition: what is told lies in memory.
-/
namespace Go.Proofs.YthdkbbkkijdhfaaGreatDoor
open Go.RowKit Go.Shelf Go.Maps

theorem hasPrefix_any (s p : Rx.Bytes) (w : World) : Calls Tryz.prog 67 #[.string ⟨s.toArray⟩, .string ⟨p.toArray⟩] w fun e w' => e = .returned (.bool (p.isPrefixOf s)) ∧ w' = w :=
  Any.strings_HasPrefix Tryz.lays99 ⟨s.toArray⟩ ⟨p.toArray⟩ w

theorem cat2 (a b : Rx.Bytes) : (⟨a.toArray⟩ : ByteArray) ++ ⟨b.toArray⟩ = ⟨(a ++ b).toArray⟩ := by
  apply ByteArray.ext; simp

def NamedPost (r : Nat) (k : UInt8) (s : Rx.Bytes) (ext fold : Bool) (e : Ending) (w' : World) : Prop := match Rx.named k s with
  | some (c, s') => e = .returned (.tuple #[.int .u8 c.toNat, .bool true]) ∧ RdAt w' r s' ext fold
  | none => e = .returned (.tuple #[.int .u8 0, .bool false]) ∧ RdAt w' r s ext fold

theorem named_short {k : UInt8} {s : Rx.Bytes} (h : s.length < 5) : Rx.named k s = none := by
  unfold Rx.named
  split
  · simp at h; omega
  · rfl

set_option maxHeartbeats 1600000 in
theorem named_any (r : Nat) (k : UInt8) (s : Rx.Bytes) (ext fold : Bool) (w : World) (h : RdAt w r s ext fold) :
    Calls Tryz.prog 115 #[.pointer (some ⟨r, 0, none⟩), .string ⟨#[k]⟩] w fun e w' => NamedPost r k s ext fold e w' ∧ Kept (· = r) w w' := by
  have c0 : w.cell? ⟨r, 0, none⟩ = some (.string ⟨s.toArray⟩) := Blk.cell h 0 rfl
  have f0 := h.free 0
  have hp := hasPrefix_any s [91, k]
  have e1 : (⟨#[91]⟩ : ByteArray) ++ ⟨#[k]⟩ = ⟨[91, k].toArray⟩ := cat2 [91] [k]
  have e2 : (⟨#[k]⟩ : ByteArray) ++ ⟨#[93]⟩ = ⟨[k, 93].toArray⟩ := cat2 [k] [93]
  by_cases h5 : s.length < 5
  · have HN := Lib.hid (named_short (k := k) h5)
    have hd : decide ((5 : Int) ≤ (s.length : Int)) = false := by simp; omega
    clear e2 hp
    go_enter Tryz.func115, Tryz.ntmps115
    go_wp2_with fail
    go_ret2
    unfold NamedPost
    rw [HN.out]
    exact ⟨⟨rfl, h⟩, Kept.refl _ _⟩
  · obtain ⟨a, b, c, d, x, t, rfl⟩ : ∃ a b c d x t, s = a :: b :: c :: d :: x :: t := by
      rcases s with _|⟨a,_|⟨b,_|⟨c,_|⟨d,_|⟨x,t⟩⟩⟩⟩⟩ <;> simp at h5 <;> first | omega | exact ⟨_, _, _, _, _, _, rfl⟩
    clear h5
    have hd : decide ((5 : Int) ≤ (t.length : Int) + 1 + 1 + 1 + 1 + 1) = true := by simp; omega
    by_cases h1 : a = 91 ∧ b = k
    · have hpt : ([91, k] : Rx.Bytes).isPrefixOf (a :: b :: c :: d :: x :: t) = true := by obtain ⟨rfl, rfl⟩ := h1; simp
      rw [hpt] at hp
      have e3 : (⟨(a :: b :: c :: d :: x :: t).toArray⟩ : ByteArray).extract 3 5 = ⟨#[d, x]⟩ := by apply ByteArray.ext; simp [ByteArray.data_extract]
      have e4 : (⟨#[d, x]⟩ : ByteArray).toList = [d, x] := ByteArray.toList_mk [d, x]
      by_cases h2 : d = k ∧ x = 93
      · have HN : Hid (Rx.named k (a :: b :: c :: d :: x :: t) = some (c, t)) := by show _ = _; obtain ⟨rfl, rfl⟩ := h1; obtain ⟨rfl, rfl⟩ := h2; simp [Rx.named]
        have h3 : (d == k) = true := by simp [h2.1]
        have h4 : (x == 93) = true := by simp [h2.2]
        have e5 : (⟨(a :: b :: c :: d :: x :: t).toArray⟩ : ByteArray).extract 5 (t.length + 1 + 1 + 1 + 1 + 1) = ⟨t.toArray⟩ := extract_drop (a :: b :: c :: d :: x :: t) 5
        have E5 := Lib.hid e5
        have HS := Lib.hid (h.set 0 (.string ⟨t.toArray⟩))
        clear h1 h2 hpt e5
        go_enter Tryz.func115, Tryz.ntmps115
        go_wp2_with fail
        refine (hp _).mono ?_
        rintro e w' ⟨rfl, rfl⟩
        go_wp2_with fail
        go_ret2
        unfold NamedPost
        rw [HN.out]
        refine ⟨⟨rfl, ?_⟩, (Kept.refl (· = r) _).setCell (.inl rfl) 0 _⟩
        rw [E5.out]
        exact HS.out
      · have HN : Hid (Rx.named k (a :: b :: c :: d :: x :: t) = none) := by
          show _ = _
          simp only [Rx.named]
          rw [if_neg (fun h => h2 ⟨h.2.2.1, h.2.2.2⟩)]
        have h3 : ((d == k) && (x == 93)) = false := by
          rw [Bool.eq_false_iff]; intro h; apply h2; simpa using h
        clear h1 h2 hpt
        go_enter Tryz.func115, Tryz.ntmps115
        go_wp2_with fail
        refine (hp _).mono ?_
        rintro e w' ⟨rfl, rfl⟩
        go_wp2_with fail
        go_ret2
        unfold NamedPost
        rw [HN.out]
        exact ⟨⟨rfl, h⟩, Kept.refl _ _⟩
    · have HN : Hid (Rx.named k (a :: b :: c :: d :: x :: t) = none) := by
        show _ = _
        simp only [Rx.named]
        rw [if_neg (fun h => h1 ⟨h.1, h.2.1⟩)]
      have hpt : ([91, k] : Rx.Bytes).isPrefixOf (a :: b :: c :: d :: x :: t) = false := by
        rw [Bool.eq_false_iff]; intro h; apply h1
        simp at h
        exact ⟨h.1.symm, h.2.symm⟩
      rw [hpt] at hp
      clear h1 hpt
      go_enter Tryz.func115, Tryz.ntmps115
      go_wp2_with fail
      refine (hp _).mono ?_
      rintro e w' ⟨rfl, rfl⟩
      go_wp2_with fail
      go_ret2
      unfold NamedPost
      rw [HN.out]
      exact ⟨⟨rfl, h⟩, Kept.refl _ _⟩

/-! What the library's variables hold. -/
structure Glo (w : World) : Prop where
  syn : ∃ tp p, w.var? Tryz.prog "strconv.ErrSyntax" = some #[.iface tp p]
  rng : ∃ tp p, w.var? Tryz.prog "strconv.ErrRange" = some #[.iface tp p]
  mx : ∃ m, w.cell? ⟨1, 0, none⟩ = some (.int .i64 m)
  tab : Lib.TabIs Tryz.prog w "internal/strconv.uint64pow10" .u64 Lib.pow10Tab
  tz : w.cell? ⟨3, 15, none⟩ = some (.int .u8 4)

theorem gSyn : Tryz.prog.globalNamed "strconv.ErrSyntax" = some 6 := by kernel_rfl
theorem gPow : Tryz.prog.globalNamed "internal/strconv.uint64pow10" = some 0 := by kernel_rfl
theorem gRng : Tryz.prog.globalNamed "strconv.ErrRange" = some 7 := by kernel_rfl

theorem var?_same {P : Program} {g : Nat} {W W' : World} {n : String} {cs : Array Value} (h : W'.heap[g]? = W.heap[g]?) (hg : P.globalNamed n = some g) (hv : W.var? P n = some cs) : W'.var? P n = some cs := by
  unfold World.var? at hv ⊢
  simp only [hg, Option.bind_some] at hv ⊢
  rw [h]
  exact hv

theorem Glo.kept {S : Nat → Prop} {w w' : World} (h : Glo w) (hk : Kept S w w') (hS : ∀ k, S k → 8 ≤ k) (h8 : 8 ≤ w.heap.size) : Glo w' := by
  obtain ⟨⟨t1, p1, h1⟩, ⟨t2, p2, h2⟩, ⟨m, h3⟩, h4, h5⟩ := h
  have hb : ∀ g, g < 8 → w'.heap[g]? = w.heap[g]? := fun g hg => hk.block g (by omega) (fun hs => absurd (hS g hs) (by omega))
  refine ⟨⟨t1, p1, var?_same (hb _ (by decide)) gSyn h1⟩, ⟨t2, p2, var?_same (hb _ (by decide)) gRng h2⟩, ⟨m, ?_⟩, ?_, ?_⟩
  · have := hb 1 (by decide)
    unfold World.cell? at h3 ⊢
    simp only [this]
    exact h3
  · exact var?_same (hb _ (by decide)) gPow h4
  · have := hb 3 (by decide)
    unfold World.cell? at h5 ⊢
    simp only [this]
    exact h5

/-- A reader, with the library's variables, of a text that is not too long. -/
structure Rd (w : World) (r : Nat) (s : Rx.Bytes) (ext fold : Bool) : Prop where
  at_ : RdAt w r s ext fold
  glo : Glo w
  hr : 8 ≤ r
  len : s.length < 1073741824

theorem Rd.lt {w : World} {r : Nat} {s : Rx.Bytes} {ext fold : Bool} (h : Rd w r s ext fold) : r < w.heap.size := h.at_.lt
theorem Rd.next {w w' : World} {r : Nat} {s s' : Rx.Bytes} {ext fold : Bool} (h : Rd w r s ext fold) {S : Nat → Prop} (hk : Kept S w w') (hS : ∀ k, S k → 8 ≤ k) (h' : RdAt w' r s' ext fold) (hl : s'.length ≤ s.length) : Rd w' r s' ext fold :=
  ⟨h', h.glo.kept hk hS (by have := h.hr; have := h.lt; omega), h.hr, Nat.lt_of_le_of_lt hl h.len⟩
theorem Rd.self {w w' : World} {r : Nat} {s s' : Rx.Bytes} {ext fold : Bool} (h : Rd w r s ext fold) (hk : Kept (· = r) w w') (h' : RdAt w' r s' ext fold) (hl : s'.length ≤ s.length) : Rd w' r s' ext fold :=
  h.next hk (fun _ e => e ▸ h.hr) h' hl

end Go.Proofs.YthdkbbkkijdhfaaGreatDoor

/-
  The walk of class. Condition: what is told lies in memory.
-/
namespace Go.Proofs.YthdkbbkkijdhfaaGreatDoor
open Go.RowKit Go.Shelf Go.Maps

theorem Kept.drewN {S : Nat → Prop} {w w' : World} (h : Kept S w w') (n : Nat) : Kept S w (w'.drewN n) := ⟨h.os, h.tape, h.output, h.size, h.block⟩

theorem cut_shut (t : Rx.Bytes) : (0 ≤ Lib.index t [58, 93] ∧ Rx.cutShut t = some (t.take (Lib.index t [58, 93]).toNat, t.drop ((Lib.index t [58, 93]).toNat + 2))) ∨ (Lib.index t [58, 93] = -1 ∧ Rx.cutShut t = none) := by
  induction t with
  | nil => right; exact ⟨rfl, rfl⟩
  | cons c r ih =>
    by_cases hc : c = 58 ∧ r.head? = some 93
    · left
      have hi : Lib.index (c :: r) [58, 93] = 0 := by
        obtain ⟨rfl, h2⟩ := hc
        cases r with
        | nil => cases h2
        | cons d q => simp at h2; subst h2; simp [Lib.index]
      rw [hi]
      refine ⟨Int.le_refl _, ?_⟩
      simp only [Rx.cutShut]
      rw [if_pos hc]
      simp
    · have hp : ([58, 93] : List UInt8).isPrefixOf (c :: r) = false := by
        rw [Bool.eq_false_iff]; intro h; apply hc
        cases r with
        | nil => simp at h
        | cons d q => simp at h; exact ⟨h.1.symm, by simp [h.2]⟩
      have hx : Rx.cutShut (c :: r) = (Rx.cutShut r).map fun x => (c :: x.1, x.2) := by simp only [Rx.cutShut]; rw [if_neg hc]
      have hi : Lib.index (c :: r) [58, 93] = if Lib.index r [58, 93] == -1 then -1 else Lib.index r [58, 93] + 1 := by
        rw [Lib.index, if_neg (by rw [hp]; decide)]
      rcases ih with ⟨h1, h2⟩ | ⟨h1, h2⟩
      · left
        have hne : (Lib.index r [58, 93] == -1) = false := by rw [beq_eq_false_iff_ne]; omega
        rw [hi, hne]
        simp only [Bool.false_eq_true, if_false]
        refine ⟨by omega, ?_⟩
        rw [hx, h2]
        have e : (Lib.index r [58, 93] + 1).toNat = (Lib.index r [58, 93]).toNat + 1 := by omega
        rw [e]
        simp
      · right
        rw [hi, h1, hx, h2]
        exact ⟨rfl, rfl⟩

def cutVal (t : Rx.Bytes) : Value := match Rx.cutShut t with
  | some (a, b) => .tuple #[.string ⟨a.toArray⟩, .string ⟨b.toArray⟩, .bool true]
  | none => .tuple #[.string ⟨t.toArray⟩, .string ⟨#[]⟩, .bool false]

theorem cut_any (t : Rx.Bytes) (hl : t.length < 1073741824) (w : World) (hg : Glo w) :
    Calls Tryz.prog 125 #[.string ⟨t.toArray⟩, .string ⟨#[58, 93]⟩] w fun e w' => e = .returned (cutVal t) ∧ ∃ n, w' = w.drewN n := by
  obtain ⟨m, hm⟩ := hg.mx
  refine (Any.strings_Cut Tryz.lays145 ⟨t.toArray⟩ ⟨#[58, 93]⟩ m w (by simp [ByteArray.size]; omega) hm).mono ?_
  rintro e w' ⟨rfl, h⟩
  refine ⟨?_, h⟩
  unfold cutVal Lib.cut
  rcases cut_shut t with ⟨h1, h2⟩ | ⟨h1, h2⟩
  · rw [h2]
    simp only []
    rw [if_pos h1]
    rfl
  · rw [h2, h1]
    rfl

theorem zero_class (w : World) : (zeroValue 162).run Tryz.prog w = .ok (.agg #[.nilFunc]) w := by kernel_rfl

/-- The cells of a set's node. -/
abbrev setCells (h : Rx.Has) : Array Value := ndCells 1 h 0 0 (.slice none 0 0)

theorem cls_step (h k : Rx.Has) (j : Nat) (hj : j < 256) : (fun c : UInt8 => if c.toNat = j then (h (UInt8.ofNat j) || k (UInt8.ofNat j)) else if c.toNat < j then h c || k c else h c) = fun c => if c.toNat < j + 1 then h c || k c else h c := by
  funext c
  have ej : (UInt8.ofNat j).toNat = j := by simp [UInt8.toNat_ofNat']; omega
  by_cases h1 : c.toNat = j
  · obtain rfl : c = UInt8.ofNat j := UInt8.toNat_inj.1 (by rw [ej, h1])
    rw [if_pos ej, if_pos (by omega)]
  · rw [if_neg h1]
    by_cases h2 : c.toNat < j
    · rw [if_pos h2, if_pos (by omega)]
    · rw [if_neg h2, if_neg (by omega)]

def ClassPost (r b : Nat) (h : Rx.Has) (s : Rx.Bytes) (ext fold : Bool) (e : Ending) (w' : World) : Prop := match Rx.cls h s with
  | none => e = .panicked [{ v := brokenV, recovered := false }]
  | some none => e = .returned (.bool false) ∧ RdAt w' r s ext fold ∧ Blk w' b (setCells h) 87
  | some (some (h', s')) => e = .returned (.bool true) ∧ RdAt w' r s' ext fold ∧ Blk w' b (setCells h') 87

set_option maxHeartbeats 1600000 in
set_option maxRecDepth 100000 in
theorem class_any (r b : Nat) (h : Rx.Has) (s : Rx.Bytes) (ext fold : Bool) (w : World) (hr : Rd w r s ext fold) (hb : Blk w b (setCells h) 87) :
    Calls Tryz.prog 114 #[.pointer (some ⟨r, 0, none⟩), .pointer (some ⟨b, 0, none⟩)] w fun e w' => ClassPost r b h s ext fold e w' ∧ Kept (fun k => k = r ∨ k = b) w w' := by
  have hne := rd_ne hr.at_ hb
  have hcp := Any.strings_CutPrefix Tryz.lays103 ⟨s.toArray⟩ ⟨#[91, 58]⟩
  have c0 : w.cell? ⟨r, 0, none⟩ = some (.string ⟨s.toArray⟩) := Blk.cell hr.at_ 0 rfl
  have f0 := hr.at_.free 0
  unfold ClassPost
  cases ht : Rx.take [91, 58] s with
  | none =>
    have hpre : Lib.hasPrefix s [91, 58] = false := by
      unfold Rx.take at ht; split at ht
      · cases ht
      · rename_i h; exact Bool.eq_false_iff.2 h
    have e1 : Rx.cls h s = some none := by simp only [Rx.cls, ht]
    rw [e1]
    simp only [hpre] at hcp
    have HR := Lib.hid hr
    clear ht hpre e1 hr
    generalize Lib.trimPrefix s [91, 58] = u at hcp
    go_enter Tryz.func114, Tryz.ntmps114
    go_wp2_with fail
    refine (hcp _).mono ?_
    rintro e w' ⟨rfl, rfl⟩
    go_wp2_with fail
    go_ret
    exact ⟨⟨rfl, HR.out.at_, hb⟩, Kept.refl _ _⟩
  | some t =>
    have hpre : Lib.hasPrefix s [91, 58] = true ∧ Lib.trimPrefix s [91, 58] = t := by
      unfold Rx.take at ht; split at ht
      · rename_i h; cases ht; exact ⟨h, by unfold Lib.trimPrefix; exact if_pos h⟩
      · cases ht
    simp only [hpre.1, hpre.2] at hcp
    have hlt : t.length ≤ s.length := by
      unfold Rx.take at ht; split at ht
      · cases ht; simp
      · cases ht
    have hct := cut_any t (by have := hr.len; omega)
    unfold cutVal at hct
    cases hc : Rx.cutShut t with
    | none =>
      rw [hc] at hct
      have e1 : Rx.cls h s = some none := by simp only [Rx.cls, ht, hc]
      rw [e1]
      have HR := Lib.hid hr
      clear ht hpre e1 hr hc hlt
      go_enter Tryz.func114, Tryz.ntmps114
      go_wp2_with fail
      refine (hcp _).mono ?_
      rintro e w' ⟨rfl, rfl⟩
      go_wp2_with fail
      refine (hct _ HR.out.glo).mono ?_
      rintro e w' ⟨rfl, n, rfl⟩
      go_wp2_with fail
      go_ret
      exact ⟨⟨rfl, HR.out.at_.drewN n, hb.drewN n⟩, (Kept.refl _ _).drewN n⟩
    | some x =>
      obtain ⟨name, rest⟩ := x
      have hnl : name.length ≤ 1073741824 := by
        have := hr.len
        rcases cut_shut t with ⟨h1, h2⟩ | ⟨h1, h2⟩
        · rw [hc] at h2; simp at h2; obtain ⟨rfl, -⟩ := h2; simp; omega
        · rw [hc] at h2; cases h2
      rw [hc] at hct
      have hlook := cls_look name (.lit (.int .i64 (-1)))
      have hcls := fun w => classes_any w
      have HR := Lib.hid hr
      have hz := zero_class
      have hz2 : clsElem (.agg #[.nilFunc]) = some (.lit (.int .i64 (-1)), []) := rfl
      cases hk : Rx.classOf name with
      | none =>
        have e1 : Rx.cls h s = none := by simp only [Rx.cls, ht, hc, hk]
        rw [e1]
        rw [hk] at hlook
        clear ht hpre e1 hr hc hlt hk
        go_enter Tryz.func114, Tryz.ntmps114
        go_wp2_with fail
        refine (hcp _).mono ?_
        rintro e w' ⟨rfl, rfl⟩
        go_wp2_with fail
        refine (hct _ HR.out.glo).mono ?_
        rintro e w' ⟨rfl, n, rfl⟩
        go_wp2_with fail
        refine (hcls _).mono ?_
        rintro e w2 ⟨rfl, hown, hbel⟩
        obtain ⟨v, ps, hrun, hv⟩ := hown.look_ok kStr Tryz.underlying164 (hz w2) hz2 (key := .string ⟨name.toArray⟩) (kl := .string name) (Go.WideMaps.keyOf_string_mk Tryz.underlying9 (by simp [ByteArray.size, maxLen]; omega))
        rw [show Maps.has clsData (.string name) = false from hlook.1, show (w'.drewN n).heap.size = w'.heap.size from rfl] at hrun
        rw [show clsData.atKey (.string name) _ = _ from hlook.2] at hv
        obtain rfl := clsElem_nil hv
        have hbel2 : Below w'.heap.size w' w2 := ⟨hbel.os, hbel.tape, hbel.output, hbel.size, hbel.block⟩
        have c1 : (w2.alloc (.cells #[.nilFunc] 162)).cell? ⟨w2.heap.size, 0, none⟩ = some .nilFunc := (Blk.new w2 #[.nilFunc] 162).cell 0 rfl
        have f1 : (w2.alloc (.cells #[.nilFunc] 162)).frozen? ⟨w2.heap.size, 0, none⟩ = false := (Blk.new w2 #[.nilFunc] 162).free 0
        clear hown hlook hv hz hz2 hbel
        go_wp2_with fail
        refine (fail_any _).mono ?_
        rintro e w3 ⟨rfl, rfl⟩
        go_wp2_with fail
        exact ⟨rfl, rfl, ((Kept.of_below hbel2).alloc _).mono (fun _ _ h => .inl h)⟩
      | some k =>
        have e1 : Rx.cls h s = some (some (fun c => h c || k c, rest)) := by simp only [Rx.cls, ht, hc, hk]
        rw [e1]
        rw [hk] at hlook
        obtain ⟨hl1, fn, hl2, hfe, hfn⟩ := hlook
        clear ht hpre e1 hr hc hlt hk
        go_enter Tryz.func114, Tryz.ntmps114
        go_wp2_with fail
        refine (hcp _).mono ?_
        rintro e w' ⟨rfl, rfl⟩
        go_wp2_with fail
        refine (hct _ HR.out.glo).mono ?_
        rintro e w' ⟨rfl, n, rfl⟩
        go_wp2_with fail
        refine (hcls _).mono ?_
        rintro e w2 ⟨rfl, hown, hbel⟩
        obtain ⟨v, ps, hrun, hv⟩ := hown.look_ok kStr Tryz.underlying164 (hz w2) hz2 (key := .string ⟨name.toArray⟩) (kl := .string name) (Go.WideMaps.keyOf_string_mk Tryz.underlying9 (by simp [ByteArray.size, maxLen]; omega))
        rw [hl1, show (w'.drewN n).heap.size = w'.heap.size from rfl] at hrun
        rw [hl2] at hv
        obtain rfl := clsElem_inv hv
        have hbel2 : Below w'.heap.size w' w2 := ⟨hbel.os, hbel.tape, hbel.output, hbel.size, hbel.block⟩
        have c1 : (w2.alloc (.cells #[.nilFunc] 162)).cell? ⟨w2.heap.size, 0, none⟩ = some .nilFunc := (Blk.new w2 #[.nilFunc] 162).cell 0 rfl
        have f1 : (w2.alloc (.cells #[.nilFunc] 162)).frozen? ⟨w2.heap.size, 0, none⟩ = false := (Blk.new w2 #[.nilFunc] 162).free 0
        unfold clsFn at hrun
        clear hown hl1 hl2 hv hz hz2 hbel
        go_wp2_with fail
        have hR2 : RdAt (w2.alloc (.cells #[.func (.func fn) #[] #[]] 162)) r s ext fold := (HR.out.at_.keep hbel2 HR.out.lt).alloc _
        have hb2 := (hb.keep hbel2 hb.lt).alloc (.cells #[.func (.func fn) #[] #[]] 162)
        have hq := Blk.new w2 #[.func (.func fn) #[] #[]] 162
        have hk2 := (Kept.of_below (S := fun k => k = r ∨ k = b) hbel2).alloc (.cells #[.func (.func fn) #[] #[]] 162)
        have hqb : w2.heap.size ≠ b := by have := hb.lt; have := hbel2.size; omega
        have hqr : w2.heap.size ≠ r := by have := HR.out.lt; have := hbel2.size; omega
        clear hb c0 f0 hrun c1 f1 hbel2
        generalize w2.heap.size = q at *
        generalize w2.alloc (.cells #[.func (.func fn) #[] #[]] 162) = w3 at *
        go_loopw [11, 39] (fun _x11 x39 wr => ∃ j : Nat, j ≤ 256 ∧ x39 = .int .i64 j ∧ Blk wr b (setCells fun c => if c.toNat < j then h c || k c else h c) 87 ∧ RdAt wr r s ext fold ∧ Blk wr q #[.func (.func fn) #[] #[]] 162 ∧ Kept (fun k => k = r ∨ k = b) w' wr) (fun _ x39 _ => 256 - (intOf x39).toNat)
        case atStart => exact ⟨0, Nat.zero_le _, rfl, by simpa using hb2, hR2, hq, hk2⟩
        case round =>
          clear hb2 hR2 hq hk2
          obtain ⟨j, hj, rfl, hb2, hR2, hq, hk2⟩ := hrel
          by_cases hlt : j < 256
          · have c0 := hb2.cell (1 + j) (nd_has _ _ _ _ _ j hlt)
            have f0 := hb2.free (1 + j)
            have ej : (UInt8.ofNat j).toNat = j := by simp [UInt8.toNat_ofNat']; omega
            rw [ej, if_neg (Nat.lt_irrefl j)] at c0
            have c1 := hq.cell 0 (v := .func (.func fn) #[] #[]) rfl
            have hf := hfn (UInt8.ofNat j)
            rw [ej] at hf
            have ew : IntKind.u8.wrap (j : Int) = j := by simp [IntKind.wrap, IntKind.signed, IntKind.bits]; omega
            have hf' : ∀ w, Calls Tryz.prog fn #[.int .u8 (IntKind.u8.wrap (j : Int))] w fun e w' => e = .returned (.bool (k (UInt8.ofNat j))) ∧ w = w' := fun w => by rw [ew]; exact hf w
            clear hf ew
            cases hh : h (UInt8.ofNat j) with
            | true =>
              rw [hh] at c0
              go_wp2_with fail
              go_region
              all_goals go_wp2_with fail
              refine ⟨⟨j + 1, by omega, by go_num, ?_, (hR2.setOther (a := ⟨b, 1 + j, none⟩) hne _).drew, (hq.setOther (a := ⟨b, 1 + j, none⟩) hqb _).drew, (hk2.setCell (.inl (.inr rfl)) _ _).drew⟩, ?_⟩
              · have h5 := (hb2.set (1 + j) (.bool (h (UInt8.ofNat j) || k (UInt8.ofNat j)))).drew
                unfold setCells at h5 ⊢
                rw [nd_set _ _ _ _ _ _ hlt, cls_step h k j hlt, hh] at h5
                exact h5
              · show 256 - ((j : Int) + 1).toNat < 256 - (j : Int).toNat
                omega
            | false =>
              rw [hh] at c0
              go_wp2_with fail
              go_region_with (go_at_fn fn; refine (hf' _).mono ?_; rintro e w4 ⟨rfl, rfl⟩)
              all_goals go_wp2_with fail
              refine ⟨⟨j + 1, by omega, by go_num, ?_, (hR2.setOther (a := ⟨b, 1 + j, none⟩) hne _).drew, (hq.setOther (a := ⟨b, 1 + j, none⟩) hqb _).drew, (hk2.setCell (.inl (.inr rfl)) _ _).drew⟩, ?_⟩
              · have h5 := (hb2.set (1 + j) (.bool (h (UInt8.ofNat j) || k (UInt8.ofNat j)))).drew
                unfold setCells at h5 ⊢
                rw [nd_set _ _ _ _ _ _ hlt, cls_step h k j hlt, hh] at h5
                exact h5
              · show 256 - ((j : Int) + 1).toNat < 256 - (j : Int).toNat
                omega
          · obtain rfl : j = 256 := by omega
            have c0 : wr.cell? ⟨r, 0, none⟩ = some (.string ⟨s.toArray⟩) := Blk.cell hR2 0 rfl
            have f0 := hR2.free 0
            go_wp2_with fail
            go_ret
            have e : (fun c : UInt8 => if c.toNat < 256 then h c || k c else h c) = fun c => h c || k c := by
              funext c
              rw [if_pos c.toNat_lt]
            rw [e] at hb2
            exact ⟨⟨rfl, hR2.set 0 _, hb2.setOther (a := ⟨r, 0, none⟩) hne.symm _⟩, hk2.setCell (.inl (.inl rfl)) 0 _⟩

end Go.Proofs.YthdkbbkkijdhfaaGreatDoor
