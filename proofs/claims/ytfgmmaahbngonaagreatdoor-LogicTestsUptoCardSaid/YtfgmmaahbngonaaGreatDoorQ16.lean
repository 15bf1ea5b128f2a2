/-
  Texts of this seat put together: GW7, GW8, GW9.
-/
import Derived.Test.YtfgmmaahbngonaaGreatDoorQ15
import Derived.Deep.RegionWith
import Derived.Laws.EntriesVeiled

/-
  The walk of class. Condition: what is told lies in memory.
-/
namespace Go.Proofs.YtfgmmaahbngonaaGreatDoor.Rg
open Go.RowKit Go.Shelf Go.Maps

theorem Kept.drewN {S : Nat → Prop} {w w' : World} (h : Kept S w w') (n : Nat) : Kept S w (w'.drewN n) := ⟨h.os, h.tape, h.output, h.size, h.block⟩

theorem cut_shut (t : Rx.Bytes) : (0 ≤ Lib.index t [58, 93] ∧ Rx.cutShut t = some (t.take (Lib.index t [58, 93]).toNat, t.drop ((Lib.index t [58, 93]).toNat + 2))) ∨ (Lib.index t [58, 93] = -1 ∧ Rx.cutShut t = none) := by
  induction t with
  | nil => right; exact ⟨rfl, rfl⟩
  | cons c r ih =>
    by_cases hc : c = 58 ∧ r.head? = some 93
    · left
      have hi : Lib.index (c :: r) [58, 93] = 0 := by
        obtain ⟨rfl, h2⟩ := hc
        cases r with
        | nil => cases h2
        | cons d q => simp at h2; subst h2; simp [Lib.index]
      rw [hi]
      refine ⟨Int.le_refl _, ?_⟩
      simp only [Rx.cutShut]
      rw [if_pos hc]
      simp
    · have hp : ([58, 93] : List UInt8).isPrefixOf (c :: r) = false := by
        rw [Bool.eq_false_iff]; intro h; apply hc
        cases r with
        | nil => simp at h
        | cons d q => simp at h; exact ⟨h.1.symm, by simp [h.2]⟩
      have hx : Rx.cutShut (c :: r) = (Rx.cutShut r).map fun x => (c :: x.1, x.2) := by simp only [Rx.cutShut]; rw [if_neg hc]
      have hi : Lib.index (c :: r) [58, 93] = if Lib.index r [58, 93] == -1 then -1 else Lib.index r [58, 93] + 1 := by
        rw [Lib.index, if_neg (by rw [hp]; decide)]
      rcases ih with ⟨h1, h2⟩ | ⟨h1, h2⟩
      · left
        have hne : (Lib.index r [58, 93] == -1) = false := by rw [beq_eq_false_iff_ne]; omega
        rw [hi, hne]
        simp only [Bool.false_eq_true, if_false]
        refine ⟨by omega, ?_⟩
        rw [hx, h2]
        have e : (Lib.index r [58, 93] + 1).toNat = (Lib.index r [58, 93]).toNat + 1 := by omega
        rw [e]
        simp
      · right
        rw [hi, h1, hx, h2]
        exact ⟨rfl, rfl⟩

def cutVal (t : Rx.Bytes) : Value := match Rx.cutShut t with
  | some (a, b) => .tuple #[.string ⟨a.toArray⟩, .string ⟨b.toArray⟩, .bool true]
  | none => .tuple #[.string ⟨t.toArray⟩, .string ⟨#[]⟩, .bool false]

theorem cut_any (t : Rx.Bytes) (hl : t.length < 1073741824) (w : World) (hg : Glo w) :
    Calls Tryz.prog 291 #[.string ⟨t.toArray⟩, .string ⟨#[58, 93]⟩] w fun e w' => e = .returned (cutVal t) ∧ ∃ n, w' = w.drewN n := by
  obtain ⟨m, hm⟩ := hg.mx
  refine (Any.strings_Cut Tryz.lays145 ⟨t.toArray⟩ ⟨#[58, 93]⟩ m w (by simp [ByteArray.size]; omega) hm).mono ?_
  rintro e w' ⟨rfl, h⟩
  refine ⟨?_, h⟩
  unfold cutVal Lib.cut
  rcases cut_shut t with ⟨h1, h2⟩ | ⟨h1, h2⟩
  · rw [h2]
    simp only []
    rw [if_pos h1]
    rfl
  · rw [h2, h1]
    rfl

theorem zero_class (w : World) : (zeroValue 418).run Tryz.prog w = .ok (.agg #[.nilFunc]) w := by kernel_rfl

/-- The cells of a set's node. -/
abbrev setCells (h : Rx.Has) : Array Value := ndCells 1 h 0 0 (.slice none 0 0)

theorem cls_step (h k : Rx.Has) (j : Nat) (hj : j < 256) : (fun c : UInt8 => if c.toNat = j then (h (UInt8.ofNat j) || k (UInt8.ofNat j)) else if c.toNat < j then h c || k c else h c) = fun c => if c.toNat < j + 1 then h c || k c else h c := by
  funext c
  have ej : (UInt8.ofNat j).toNat = j := by simp [UInt8.toNat_ofNat']; omega
  by_cases h1 : c.toNat = j
  · obtain rfl : c = UInt8.ofNat j := UInt8.toNat_inj.1 (by rw [ej, h1])
    rw [if_pos ej, if_pos (by omega)]
  · rw [if_neg h1]
    by_cases h2 : c.toNat < j
    · rw [if_pos h2, if_pos (by omega)]
    · rw [if_neg h2, if_neg (by omega)]

def ClassPost (r b : Nat) (h : Rx.Has) (s : Rx.Bytes) (ext fold : Bool) (e : Ending) (w' : World) : Prop := match Rx.cls h s with
  | none => e = .panicked [{ v := brokenV, recovered := false }]
  | some none => e = .returned (.bool false) ∧ RdAt w' r s ext fold ∧ Blk w' b (setCells h) 351
  | some (some (h', s')) => e = .returned (.bool true) ∧ RdAt w' r s' ext fold ∧ Blk w' b (setCells h') 351

set_option maxHeartbeats 1600000 in
set_option maxRecDepth 100000 in
theorem class_any (r b : Nat) (h : Rx.Has) (s : Rx.Bytes) (ext fold : Bool) (w : World) (hr : Rd w r s ext fold) (hb : Blk w b (setCells h) 351) :
    Calls Tryz.prog 286 #[.pointer (some ⟨r, 0, none⟩), .pointer (some ⟨b, 0, none⟩)] w fun e w' => ClassPost r b h s ext fold e w' ∧ Kept (fun k => k = r ∨ k = b) w w' := by
  have hne := rd_ne hr.at_ hb
  have hcp := Any.strings_CutPrefix Tryz.lays103 ⟨s.toArray⟩ ⟨#[91, 58]⟩
  have c0 : w.cell? ⟨r, 0, none⟩ = some (.string ⟨s.toArray⟩) := Blk.cell hr.at_ 0 rfl
  have f0 := hr.at_.free 0
  unfold ClassPost
  cases ht : Rx.take [91, 58] s with
  | none =>
    have hpre : Lib.hasPrefix s [91, 58] = false := by
      unfold Rx.take at ht; split at ht
      · cases ht
      · rename_i h; exact Bool.eq_false_iff.2 h
    have e1 : Rx.cls h s = some none := by simp only [Rx.cls, ht]
    rw [e1]
    simp only [hpre] at hcp
    have HR := Lib.hid hr
    clear ht hpre e1 hr
    generalize Lib.trimPrefix s [91, 58] = u at hcp
    go_enter Tryz.func286, Tryz.ntmps286
    go_wp2_with fail
    refine (hcp _).mono ?_
    rintro e w' ⟨rfl, rfl⟩
    go_wp2_with fail
    go_ret
    exact ⟨⟨rfl, HR.out.at_, hb⟩, Kept.refl _ _⟩
  | some t =>
    have hpre : Lib.hasPrefix s [91, 58] = true ∧ Lib.trimPrefix s [91, 58] = t := by
      unfold Rx.take at ht; split at ht
      · rename_i h; cases ht; exact ⟨h, by unfold Lib.trimPrefix; exact if_pos h⟩
      · cases ht
    simp only [hpre.1, hpre.2] at hcp
    have hlt : t.length ≤ s.length := by
      unfold Rx.take at ht; split at ht
      · cases ht; simp
      · cases ht
    have hct := cut_any t (by have := hr.len; omega)
    unfold cutVal at hct
    cases hc : Rx.cutShut t with
    | none =>
      rw [hc] at hct
      have e1 : Rx.cls h s = some none := by simp only [Rx.cls, ht, hc]
      rw [e1]
      have HR := Lib.hid hr
      clear ht hpre e1 hr hc hlt
      go_enter Tryz.func286, Tryz.ntmps286
      go_wp2_with fail
      refine (hcp _).mono ?_
      rintro e w' ⟨rfl, rfl⟩
      go_wp2_with fail
      refine (hct _ HR.out.glo).mono ?_
      rintro e w' ⟨rfl, n, rfl⟩
      go_wp2_with fail
      go_ret
      exact ⟨⟨rfl, HR.out.at_.drewN n, hb.drewN n⟩, (Kept.refl _ _).drewN n⟩
    | some x =>
      obtain ⟨name, rest⟩ := x
      have hnl : name.length ≤ 1073741824 := by
        have := hr.len
        rcases cut_shut t with ⟨h1, h2⟩ | ⟨h1, h2⟩
        · rw [hc] at h2; simp at h2; obtain ⟨rfl, -⟩ := h2; simp; omega
        · rw [hc] at h2; cases h2
      rw [hc] at hct
      have hlook := cls_look name (.lit (.int .i64 (-1)))
      have hcls := fun w => classes_any w
      have HR := Lib.hid hr
      have hz := zero_class
      have hz2 : clsElem (.agg #[.nilFunc]) = some (.lit (.int .i64 (-1)), []) := rfl
      cases hk : Rx.classOf name with
      | none =>
        have e1 : Rx.cls h s = none := by simp only [Rx.cls, ht, hc, hk]
        rw [e1]
        rw [hk] at hlook
        clear ht hpre e1 hr hc hlt hk
        go_enter Tryz.func286, Tryz.ntmps286
        go_wp2_with fail
        refine (hcp _).mono ?_
        rintro e w' ⟨rfl, rfl⟩
        go_wp2_with fail
        refine (hct _ HR.out.glo).mono ?_
        rintro e w' ⟨rfl, n, rfl⟩
        go_wp2_with fail
        refine (hcls _).mono ?_
        rintro e w2 ⟨rfl, hown, hbel⟩
        obtain ⟨v, ps, hrun, hv⟩ := hown.look_ok kStr Tryz.underlying420 (hz w2) hz2 (key := .string ⟨name.toArray⟩) (kl := .string name) (Go.WideMaps.keyOf_string_mk Tryz.underlying9 (by simp [ByteArray.size, maxLen]; omega))
        rw [show Maps.has clsData (.string name) = false from hlook.1, show (w'.drewN n).heap.size = w'.heap.size from rfl] at hrun
        rw [show clsData.atKey (.string name) _ = _ from hlook.2] at hv
        obtain rfl := clsElem_nil hv
        have hbel2 : Below w'.heap.size w' w2 := ⟨hbel.os, hbel.tape, hbel.output, hbel.size, hbel.block⟩
        have c1 : (w2.alloc (.cells #[.nilFunc] 418)).cell? ⟨w2.heap.size, 0, none⟩ = some .nilFunc := (Blk.new w2 #[.nilFunc] 418).cell 0 rfl
        have f1 : (w2.alloc (.cells #[.nilFunc] 418)).frozen? ⟨w2.heap.size, 0, none⟩ = false := (Blk.new w2 #[.nilFunc] 418).free 0
        clear hown hlook hv hz hz2 hbel
        go_wp2_with fail
        refine (fail_any _).mono ?_
        rintro e w3 ⟨rfl, rfl⟩
        go_wp2_with fail
        exact ⟨rfl, rfl, ((Kept.of_below hbel2).alloc _).mono (fun _ _ h => .inl h)⟩
      | some k =>
        have e1 : Rx.cls h s = some (some (fun c => h c || k c, rest)) := by simp only [Rx.cls, ht, hc, hk]
        rw [e1]
        rw [hk] at hlook
        obtain ⟨hl1, fn, hl2, hfe, hfn⟩ := hlook
        clear ht hpre e1 hr hc hlt hk
        go_enter Tryz.func286, Tryz.ntmps286
        go_wp2_with fail
        refine (hcp _).mono ?_
        rintro e w' ⟨rfl, rfl⟩
        go_wp2_with fail
        refine (hct _ HR.out.glo).mono ?_
        rintro e w' ⟨rfl, n, rfl⟩
        go_wp2_with fail
        refine (hcls _).mono ?_
        rintro e w2 ⟨rfl, hown, hbel⟩
        obtain ⟨v, ps, hrun, hv⟩ := hown.look_ok kStr Tryz.underlying420 (hz w2) hz2 (key := .string ⟨name.toArray⟩) (kl := .string name) (Go.WideMaps.keyOf_string_mk Tryz.underlying9 (by simp [ByteArray.size, maxLen]; omega))
        rw [hl1, show (w'.drewN n).heap.size = w'.heap.size from rfl] at hrun
        rw [hl2] at hv
        obtain rfl := clsElem_inv hv
        have hbel2 : Below w'.heap.size w' w2 := ⟨hbel.os, hbel.tape, hbel.output, hbel.size, hbel.block⟩
        have c1 : (w2.alloc (.cells #[.nilFunc] 418)).cell? ⟨w2.heap.size, 0, none⟩ = some .nilFunc := (Blk.new w2 #[.nilFunc] 418).cell 0 rfl
        have f1 : (w2.alloc (.cells #[.nilFunc] 418)).frozen? ⟨w2.heap.size, 0, none⟩ = false := (Blk.new w2 #[.nilFunc] 418).free 0
        unfold clsFn at hrun
        clear hown hl1 hl2 hv hz hz2 hbel
        go_wp2_with fail
        have hR2 : RdAt (w2.alloc (.cells #[.func (.func fn) #[] #[]] 418)) r s ext fold := (HR.out.at_.keep hbel2 HR.out.lt).alloc _
        have hb2 := (hb.keep hbel2 hb.lt).alloc (.cells #[.func (.func fn) #[] #[]] 418)
        have hq := Blk.new w2 #[.func (.func fn) #[] #[]] 418
        have hk2 := (Kept.of_below (S := fun k => k = r ∨ k = b) hbel2).alloc (.cells #[.func (.func fn) #[] #[]] 418)
        have hqb : w2.heap.size ≠ b := by have := hb.lt; have := hbel2.size; omega
        have hqr : w2.heap.size ≠ r := by have := HR.out.lt; have := hbel2.size; omega
        clear hb c0 f0 hrun c1 f1 hbel2
        generalize w2.heap.size = q at *
        generalize w2.alloc (.cells #[.func (.func fn) #[] #[]] 418) = w3 at *
        go_loopw [11, 39] (fun _x11 x39 wr => ∃ j : Nat, j ≤ 256 ∧ x39 = .int .i64 j ∧ Blk wr b (setCells fun c => if c.toNat < j then h c || k c else h c) 351 ∧ RdAt wr r s ext fold ∧ Blk wr q #[.func (.func fn) #[] #[]] 418 ∧ Kept (fun k => k = r ∨ k = b) w' wr) (fun _ x39 _ => 256 - (intOf x39).toNat)
        case atStart => exact ⟨0, Nat.zero_le _, rfl, by simpa using hb2, hR2, hq, hk2⟩
        case round =>
          clear hb2 hR2 hq hk2
          obtain ⟨j, hj, rfl, hb2, hR2, hq, hk2⟩ := hrel
          by_cases hlt : j < 256
          · have c0 := hb2.cell (1 + j) (nd_has _ _ _ _ _ j hlt)
            have f0 := hb2.free (1 + j)
            have ej : (UInt8.ofNat j).toNat = j := by simp [UInt8.toNat_ofNat']; omega
            rw [ej, if_neg (Nat.lt_irrefl j)] at c0
            have c1 := hq.cell 0 (v := .func (.func fn) #[] #[]) rfl
            have hf := hfn (UInt8.ofNat j)
            rw [ej] at hf
            have ew : IntKind.u8.wrap (j : Int) = j := by simp [IntKind.wrap, IntKind.signed, IntKind.bits]; omega
            have hf' : ∀ w, Calls Tryz.prog fn #[.int .u8 (IntKind.u8.wrap (j : Int))] w fun e w' => e = .returned (.bool (k (UInt8.ofNat j))) ∧ w = w' := fun w => by rw [ew]; exact hf w
            clear hf ew
            cases hh : h (UInt8.ofNat j) with
            | true =>
              rw [hh] at c0
              go_wp2_with fail
              go_region
              all_goals go_wp2_with fail
              refine ⟨⟨j + 1, by omega, by go_num, ?_, (hR2.setOther (a := ⟨b, 1 + j, none⟩) hne _).drew, (hq.setOther (a := ⟨b, 1 + j, none⟩) hqb _).drew, (hk2.setCell (.inl (.inr rfl)) _ _).drew⟩, ?_⟩
              · have h5 := (hb2.set (1 + j) (.bool (h (UInt8.ofNat j) || k (UInt8.ofNat j)))).drew
                unfold setCells at h5 ⊢
                rw [nd_set _ _ _ _ _ _ hlt, cls_step h k j hlt, hh] at h5
                exact h5
              · show 256 - ((j : Int) + 1).toNat < 256 - (j : Int).toNat
                omega
            | false =>
              rw [hh] at c0
              go_wp2_with fail
              go_region_with (go_at_fn fn; refine (hf' _).mono ?_; rintro e w4 ⟨rfl, rfl⟩)
              all_goals go_wp2_with fail
              refine ⟨⟨j + 1, by omega, by go_num, ?_, (hR2.setOther (a := ⟨b, 1 + j, none⟩) hne _).drew, (hq.setOther (a := ⟨b, 1 + j, none⟩) hqb _).drew, (hk2.setCell (.inl (.inr rfl)) _ _).drew⟩, ?_⟩
              · have h5 := (hb2.set (1 + j) (.bool (h (UInt8.ofNat j) || k (UInt8.ofNat j)))).drew
                unfold setCells at h5 ⊢
                rw [nd_set _ _ _ _ _ _ hlt, cls_step h k j hlt, hh] at h5
                exact h5
              · show 256 - ((j : Int) + 1).toNat < 256 - (j : Int).toNat
                omega
          · obtain rfl : j = 256 := by omega
            have c0 : wr.cell? ⟨r, 0, none⟩ = some (.string ⟨s.toArray⟩) := Blk.cell hR2 0 rfl
            have f0 := hR2.free 0
            go_wp2_with fail
            go_ret
            have e : (fun c : UInt8 => if c.toNat < 256 then h c || k c else h c) = fun c => h c || k c := by
              funext c
              rw [if_pos c.toNat_lt]
            rw [e] at hb2
            exact ⟨⟨rfl, hR2.set 0 _, hb2.setOther (a := ⟨r, 0, none⟩) hne.symm _⟩, hk2.setCell (.inl (.inl rfl)) 0 _⟩

end Go.Proofs.YtfgmmaahbngonaaGreatDoor.Rg

/-
  The walk of part. Condition: what is told lies in memory.
-/
namespace Go.Proofs.YtfgmmaahbngonaaGreatDoor.Rg
open Go.RowKit Go.Shelf Go.Maps

theorem within_self (c : UInt8) (h : Rx.Has) : (fun e => h e || Rx.within e c c) = fun d => h d || d == c := by
  funext d
  congr 1
  unfold Rx.within
  rw [Bool.eq_iff_iff]
  simp only [Bool.and_eq_true, decide_eq_true_eq, beq_iff_eq, UInt8.le_iff_toNat_le]
  constructor
  · rintro ⟨h1, h2⟩; exact UInt8.toNat_inj.1 (by omega)
  · rintro rfl; exact ⟨Nat.le_refl _, Nat.le_refl _⟩

theorem named_len {k : UInt8} {s s' : Rx.Bytes} {c : UInt8} (h : Rx.named k s = some (c, s')) : s'.length < s.length := by
  unfold Rx.named at h
  split at h
  · split at h
    · simp at h; obtain ⟨-, rfl⟩ := h; simp; omega
    · cases h
  · cases h
theorem lower_len {s s' : Rx.Bytes} {c : UInt8} (h : Rx.lower s = some (c, s')) : s'.length < s.length := by
  unfold Rx.lower at h
  split at h
  · rename_i x hx; cases h; exact named_len hx
  · split at h
    · cases h
    · cases h; simp

def PartPost (r b : Nat) (h : Rx.Has) (s : Rx.Bytes) (ext fold : Bool) (e : Ending) (w' : World) : Prop := match Rx.part h s with
  | none => e = .panicked [{ v := brokenV, recovered := false }]
  | some (h', s') => e = .returned (.tuple #[]) ∧ RdAt w' r s' ext fold ∧ Blk w' b (setCells h') 351

/-- What named hands back, in one sentence. -/
def NamedAns (k : UInt8) (s : Rx.Bytes) (c : UInt8) (is : Bool) (s0 : Rx.Bytes) : Prop := (is = true ∧ Rx.named k s = some (c, s0)) ∨ (is = false ∧ Rx.named k s = none ∧ c = 0 ∧ s0 = s)

theorem named_ans (r : Nat) (k : UInt8) (s : Rx.Bytes) (ext fold : Bool) (w : World) (h : RdAt w r s ext fold) :
    Calls Tryz.prog 287 #[.pointer (some ⟨r, 0, none⟩), .string ⟨#[k]⟩] w fun e w' => (∃ c is s0, e = .returned (.tuple #[.int .u8 c.toNat, .bool is]) ∧ RdAt w' r s0 ext fold ∧ Hid (NamedAns k s c is s0)) ∧ Kept (· = r) w w' := by
  refine (named_any r k s ext fold w h).mono ?_
  rintro e w' ⟨h1, hk⟩
  refine ⟨?_, hk⟩
  unfold NamedPost at h1
  cases hn : Rx.named k s with
  | none => rw [hn] at h1; exact ⟨0, false, s, h1.1, h1.2, .inr ⟨rfl, hn, rfl, rfl⟩⟩
  | some x => obtain ⟨c, s0⟩ := x; rw [hn] at h1; exact ⟨c, true, s0, h1.1, h1.2, .inl ⟨rfl, hn⟩⟩

/-- What the reader keeps while a set is read. -/
structure InSet (w wx : World) (r b : Nat) (h : Rx.Has) (s : Rx.Bytes) (ext fold : Bool) : Prop where
  rd : RdAt wx r s ext fold
  nd : Blk wx b (setCells h) 351
  kept : Kept (fun k => k = r ∨ k = b) w wx

theorem InSet.go {w wx w' : World} {r b : Nat} {h : Rx.Has} {s s' : Rx.Bytes} {ext fold : Bool} (I : InSet w wx r b h s ext fold) (hne : r ≠ b) (hr : RdAt w' r s' ext fold) (hk : Kept (· = r) wx w') : InSet w w' r b h s' ext fold :=
  ⟨hr, I.nd.kept hk (Ne.symm hne), I.kept.trans (hk.mono fun _ _ h => .inl h)⟩
theorem InSet.set {w wx : World} {r b : Nat} {h : Rx.Has} {s : Rx.Bytes} {ext fold : Bool} (I : InSet w wx r b h s ext fold) (hne : r ≠ b) (i : Nat) (hi : i < 256) (v : Bool) : InSet w (wx.setCell ⟨b, 1 + i, none⟩ (.bool v)) r b (fun c => if c.toNat = i then v else h c) s ext fold := by
  refine ⟨I.rd.setOther (a := ⟨b, 1 + i, none⟩) hne _, ?_, I.kept.setCell (.inl (.inr rfl)) _ _⟩
  have h5 := I.nd.set (1 + i) (.bool v)
  unfold setCells at h5 ⊢
  rw [nd_set _ _ _ _ _ _ hi] at h5
  exact h5
theorem InSet.cell {w wx : World} {r b : Nat} {h : Rx.Has} {s : Rx.Bytes} {ext fold : Bool} (I : InSet w wx r b h s ext fold) : wx.cell? ⟨r, 0, none⟩ = some (.string ⟨s.toArray⟩) := Blk.cell I.rd 0 rfl

theorem set_eq (h : Rx.Has) (c : UInt8) : (fun d : UInt8 => if d.toNat = c.toNat then true else h d) = fun d => h d || d == c := by
  funext d
  by_cases hd : d = c
  · subst hd; simp
  · rw [if_neg (fun h2 => hd (UInt8.toNat_inj.1 h2))]
    have : (d == c) = false := by simp [hd]
    rw [this, Bool.or_false]

theorem setTo_step (h : Rx.Has) (a k : Nat) (hak : a ≤ k) : (fun d : UInt8 => if d.toNat = k then true else h d || (decide (a ≤ d.toNat) && decide (d.toNat < k))) = fun d => h d || (decide (a ≤ d.toNat) && decide (d.toNat < k + 1)) := by
  funext d
  by_cases hd : d.toNat = k
  · rw [if_pos hd]
    have h1 : decide (a ≤ d.toNat) = true := by simp; omega
    have h2 : decide (d.toNat < k + 1) = true := by simp; omega
    rw [h1, h2]; simp
  · rw [if_neg hd]
    have h2 : decide (d.toNat < k + 1) = decide (d.toNat < k) := by congr 1; apply propext; omega
    rw [h2]

theorem lower_cases {s : Rx.Bytes} {c0 : UInt8} {is0 : Bool} {s0 : Rx.Bytes} (h : NamedAns 46 s c0 is0 s0) : (is0 = true ∧ Rx.lower s = some (c0, s0)) ∨ (is0 = false ∧ s0 = s ∧ ((s = [] ∧ Rx.lower s = none) ∨ ∃ c s1, s = c :: s1 ∧ Rx.lower s = some (c, s1))) := by
  unfold Rx.lower
  rcases h with ⟨h1, h2⟩ | ⟨h1, h2, -, h4⟩
  · left; rw [h2]; exact ⟨h1, rfl⟩
  · right; rw [h2]; refine ⟨h1, h4, ?_⟩
    cases s with
    | nil => left; exact ⟨rfl, rfl⟩
    | cons c s1 => right; exact ⟨c, s1, rfl, rfl⟩

set_option maxHeartbeats 1600000 in
set_option maxRecDepth 100000 in
theorem part_any (r b : Nat) (h : Rx.Has) (s : Rx.Bytes) (ext fold : Bool) (w : World) (hr : Rd w r s ext fold) (hb : Blk w b (setCells h) 351) :
    Calls Tryz.prog 281 #[.pointer (some ⟨r, 0, none⟩), .pointer (some ⟨b, 0, none⟩)] w fun e w' => PartPost r b h s ext fold e w' ∧ Kept (fun k => k = r ∨ k = b) w w' := by
  have hne := rd_ne hr.at_ hb
  have hcls := class_any r b h s ext fold w hr hb
  have hpart : Hid (∀ x, Rx.part h s = x → ∀ e w', PartPost r b h s ext fold e w' = match x with
    | none => e = .panicked [{ v := brokenV, recovered := false }]
    | some (h', s') => e = .returned (.tuple #[]) ∧ RdAt w' r s' ext fold ∧ Blk w' b (setCells h') 351) := by
    rintro x rfl e w'; rfl
  unfold ClassPost at hcls
  rcases hc : Rx.cls h s with _ | _ | ⟨h', s'⟩
  · rw [hc] at hcls
    have HX : Hid (Rx.part h s = none) := by show _ = _; unfold Rx.part; rw [hc]
    clear hb hr hc
    go_enter Tryz.func281, Tryz.ntmps281
    go_wp2_with fail
    refine hcls.mono ?_
    rintro e w' ⟨rfl, hk⟩
    go_wp2_with fail
    exact ⟨rfl, (hpart.out _ HX.out _ _).mpr rfl, hk⟩
  · rw [hc] at hcls
    have HC := Lib.hid hc
    have HR := Lib.hid hr
    clear hb hr hc
    go_enter Tryz.func281, Tryz.ntmps281
    go_wp2_with fail
    refine hcls.mono ?_
    rintro e w1 ⟨⟨rfl, hr1, hb1⟩, hk1⟩
    clear hcls
    have I : InSet w w1 r b h s ext fold := ⟨hr1, hb1, hk1⟩
    have hn := named_ans r 61 s ext fold w1 hr1
    clear hr1 hb1 hk1
    go_wp2_with fail
    refine hn.mono ?_
    rintro e w2 ⟨⟨c0, is0, s0, rfl, hr2, HA⟩, hk2⟩
    have I2 := I.go hne hr2 hk2
    clear hr2 hk2 I hn w1
    rcases HA.out with ⟨rfl, h61⟩ | ⟨rfl, h61, rfl, rfl⟩
    · have HX : Hid (Rx.part h s = some (fun d => h d || d == c0, s0)) := by show _ = _; unfold Rx.part; rw [HC.out, h61]
      have f0 := I2.nd.free (1 + c0.toNat)
      have hcl := c0.toNat_lt
      have x0 := I2.nd.cell (1 + c0.toNat) (nd_has _ _ _ _ _ c0.toNat hcl)
      clear h61
      go_wp2_with fail
      refine bodyPost_ret (results_none rfl _ _ _) rfl ?_
      have I3 := I2.set hne c0.toNat hcl true
      rw [set_eq] at I3
      rw [hpart.out _ HX.out]
      exact ⟨⟨rfl, I3.rd, I3.nd⟩, I3.kept⟩
    · have HX : Hid (Rx.part h s0 = match Rx.lower s0 with
        | none => none
        | some (c, r) => match Rx.rangeOf c r with
          | none => none
          | some (d, r2) => some (fun e => h e || Rx.within e c d, r2)) := by show _ = _; unfold Rx.part; rw [HC.out, h61]; rfl
      clear h61 HA HC
      have hn := named_ans r 46 s0 ext fold w2 I2.rd
      go_wp2_with fail
      refine hn.mono ?_
      rintro e w3 ⟨⟨c1, is1, s1, rfl, hr3, HA⟩, hk3⟩
      have I3 := I2.go hne hr3 hk3
      clear hr3 hk3 I2 hn w2
      go_upto_if 30 with fail
      go_cut [6, 7, 24, 26, 28, 29, 30, 31, 32] (fun s6 _s7 _s24 _s26 _s28 _s29 _s30 _s31 _s32 wx => ∃ c s1, Hid (Rx.lower s0 = some (c, s1)) ∧ s6 = .int .u8 c.toNat ∧ InSet w wx r b h s1 ext fold)
      case first =>
        rcases lower_cases HA.out with ⟨rfl, hl⟩ | ⟨rfl, rfl, ⟨rfl, hl⟩ | ⟨c, s2, hs, hl⟩⟩
        · have HL := Lib.hid hl
          clear hl HA
          go_wp2_with fail
          go_meet
          exact ⟨c1, s1, HL, rfl, I3⟩
        · have HL := Lib.hid hl
          clear hl HA
          have hx := next_any r [] ext fold w3 I3.rd
          unfold NextPost at hx
          go_wp2_with fail
          refine hx.mono ?_
          rintro e w4 ⟨rfl, hk4⟩
          go_wp2_with fail
          exact ⟨rfl, (hpart.out none (by rw [HX.out, HL.out]) _ _).mpr rfl, I3.kept.trans (hk4.mono fun _ _ h => .inl h)⟩
        · have HL := Lib.hid hl
          have hx := next_any r s1 ext fold w3 I3.rd
          unfold NextPost at hx
          rw [hs] at hx
          have HS := Lib.hid hs
          clear hl HA hs
          go_wp2_with fail
          refine hx.mono ?_
          rintro e w4 ⟨⟨rfl, hr4⟩, hk4⟩
          go_wp2_with fail
          go_meet
          exact ⟨c, s2, HL, rfl, I3.go hne hr4 hk4⟩
      case rest =>
        obtain ⟨c, s2, HL, rfl, I4⟩ := hcut
        clear HA I3
        have HX2 : Hid (Rx.part h s0 = match Rx.rangeOf c s2 with
          | none => none
          | some (d, r2) => some (fun e => h e || Rx.within e c d, r2)) := by show _ = _; rw [HX.out, HL.out]
        clear HX HL
        have cr := I4.cell
        go_upto_region 8 with fail
        go_cut [34, 35, 36, 37, 38, 39, 40, 41, 42, 43, 44, 45, 46, 47, 48, 49, 50, 51, 52, 53, 54, 55] (fun _s34 _s35 _s36 _s37 _s38 _s39 _s40 _s41 _s42 _s43 _s44 _s45 _s46 _s47 _s48 _s49 _s50 _s51 _s52 _s53 _s54 s55 wx => s55 = .bool (Rx.isRange s2) ∧ wx = wc)
        case first =>
          have HI := Lib.hid I4
          rcases s2 with _ | ⟨a, _ | ⟨x, q⟩⟩
          · have HR2 : Hid (Rx.isRange [] = false) := by show _ = _; rfl
            clear I4
            go_wp2_with fail
            go_meet
            exact ⟨by rw [HR2.out], rfl⟩
          · have HR2 : Hid (Rx.isRange [a] = false) := by show _ = _; rfl
            clear I4
            go_wp2_with fail
            go_meet
            exact ⟨by rw [HR2.out], rfl⟩
          · have HR2 : Hid (Rx.isRange (a :: x :: q) = ((a == 45) && (x != 93))) := by show _ = _; unfold Rx.isRange; rw [show decide (1 < (a :: x :: q).length) = true by simp]; rfl
            have hlen : decide ((1 : Int) < (q.length : Int) + 1 + 1) = true := by simp; omega
            clear I4
            by_cases ha : a = 45
            · subst ha
              go_wp2_with fail
              go_meet
              refine ⟨congrArg Value.bool ?_, rfl⟩
              rw [HR2.out]
              show ((x.toNat : Int) != 93) = (x != 93)
              unfold bne
              rw [u8_beq]; rfl
            · have hx1 : ((a.toNat : Int) == 45) = false := by rw [← show ((45 : UInt8).toNat : Int) = 45 from rfl, ← u8_beq]; simpa using ha
              have HX1 := Lib.hid ha
              have hx3 : ¬ ((a.toNat : Int) = 45) := by simpa using hx1
              clear ha hx1
              go_wp2_with fail
              go_meet
              exact ⟨by rw [HR2.out]; simp [HX1.out], rfl⟩
        case rest =>
          obtain ⟨rfl, rfl⟩ := hcut
          go_upto_if 55 with fail
          go_cut [7, 8, 55, 56, 57, 58, 59, 60, 61, 62, 63, 64, 65, 66, 67, 68, 69, 70, 71, 72, 73, 74, 75, 76, 77] (fun _s7 s8 _s55 _s56 _s57 _s58 _s59 _s60 _s61 _s62 _s63 _s64 _s65 _s66 _s67 _s68 _s69 _s70 _s71 _s72 _s73 _s74 _s75 _s76 _s77 wx => ∃ d s3, Hid (Rx.rangeOf c s2 = some (d, s3)) ∧ Hid (c ≤ d) ∧ s8 = .int .u8 d.toNat ∧ InSet w wx r b h s3 ext fold)
          case first =>
            cases hir : Rx.isRange s2 with
            | false =>
              have HR2 : Hid (Rx.rangeOf c s2 = some (c, s2)) := by show _ = _; unfold Rx.rangeOf; rw [hir]; rfl
              clear hir
              go_wp2_with fail
              go_meet
              exact ⟨c, s2, HR2, UInt8.le_refl c, rfl, I4⟩
            | true =>
              obtain ⟨t, rfl⟩ : ∃ t, s2 = 45 :: t := by
                unfold Rx.isRange at hir
                cases s2 with
                | nil => simp at hir
                | cons a t => simp at hir; exact ⟨t, by rw [hir.2.1]⟩
              have HR2 : Hid (Rx.rangeOf c (45 :: t) = match Rx.upper t with
                | none => none
                | some (d, r2) => if d < c then none else some (d, r2)) := by show _ = _; unfold Rx.rangeOf; rw [hir]; rfl
              clear hir
              have hx := next_any r (45 :: t) ext fold _ I4.rd
              unfold NextPost at hx
              go_wp2_with fail
              refine hx.mono ?_
              rintro e w5 ⟨⟨rfl, hr5⟩, hk5⟩
              have I5 := I4.go hne hr5 hk5
              clear hr5 hk5 I4 hx cr
              have hn := named_ans r 46 t ext fold w5 I5.rd
              go_wp2_with fail
              refine hn.mono ?_
              rintro e w6 ⟨⟨d1, is1, s5, rfl, hr6, HA⟩, hk6⟩
              have I6 := I5.go hne hr6 hk6
              clear hr6 hk6 I5 hn
              go_upto_if 64 with fail
              go_cut [7, 8, 58, 60, 61, 62, 63, 64, 65, 66, 67, 68, 69, 70, 71, 72, 73] (fun _s7 s8 _s58 _s60 _s61 _s62 _s63 _s64 _s65 _s66 _s67 _s68 _s69 _s70 _s71 _s72 _s73 wx => ∃ d s6, Hid (Rx.upper t = some (d, s6)) ∧ s8 = .int .u8 d.toNat ∧ InSet w wx r b h s6 ext fold)
              case first =>
                rcases HA.out with ⟨rfl, h46⟩ | ⟨rfl, h46, rfl, rfl⟩
                · have HU : Hid (Rx.upper t = some (d1, s5)) := by show _ = _; unfold Rx.upper; rw [h46]
                  clear h46 HA
                  go_wp2_with fail
                  go_meet
                  exact ⟨d1, s5, HU, rfl, I6⟩
                · have hn := named_ans r 61 s5 ext fold w6 I6.rd
                  clear HA
                  have H46 := Lib.hid h46
                  clear h46
                  go_wp2_with fail
                  refine hn.mono ?_
                  rintro e w7 ⟨⟨d2, is2, s6, rfl, hr7, HA⟩, hk7⟩
                  have I7 := I6.go hne hr7 hk7
                  clear hr7 hk7 I6 hn
                  rcases HA.out with ⟨rfl, h61⟩ | ⟨rfl, h61, rfl, rfl⟩
                  · have HU : Hid (Rx.upper s5 = some (d2, s6)) := by show _ = _; unfold Rx.upper; rw [H46.out, h61]
                    clear h61 HA
                    go_wp2_with fail
                    go_meet
                    exact ⟨d2, s6, HU, rfl, I7⟩
                  · have hx := next_any r s6 ext fold w7 I7.rd
                    unfold NextPost at hx
                    cases hs : s6 with
                    | nil =>
                      have HU : Hid (Rx.upper s6 = none) := by show _ = _; unfold Rx.upper; rw [H46.out, h61, hs]
                      rw [hs] at hx
                      clear h61 HA hs
                      go_wp2_with fail
                      refine hx.mono ?_
                      rintro e w8 ⟨rfl, hk8⟩
                      go_wp2_with fail
                      exact ⟨rfl, (hpart.out none (by rw [HX2.out, HR2.out, HU.out]) _ _).mpr rfl, I7.kept.trans (hk8.mono fun _ _ h => .inl h)⟩
                    | cons d3 s8 =>
                      have HU : Hid (Rx.upper s6 = some (d3, s8)) := by show _ = _; unfold Rx.upper; rw [H46.out, h61, hs]
                      rw [hs] at hx
                      clear h61 HA hs
                      go_wp2_with fail
                      refine hx.mono ?_
                      rintro e w8 ⟨⟨rfl, hr8⟩, hk8⟩
                      go_wp2_with fail
                      go_meet
                      exact ⟨d3, s8, HU, rfl, I7.go hne hr8 hk8⟩
              case rest =>
                obtain ⟨d, s6, HU, rfl, I7⟩ := hcut
                clear HA I6
                by_cases hdc : d < c
                · have HR3 : Hid (Rx.rangeOf c (45 :: t) = none) := by show _ = _; rw [HR2.out, HU.out]; exact if_pos hdc
                  rw [u8_lt] at hdc
                  go_wp2_with fail
                  refine (fail_any _).mono ?_
                  rintro e w8 ⟨rfl, rfl⟩
                  go_wp2_with fail
                  exact ⟨rfl, (hpart.out none (by rw [HX2.out, HR3.out]) _ _).mpr rfl, I7.kept⟩
                · have HR3 : Hid (Rx.rangeOf c (45 :: t) = some (d, s6)) := by show _ = _; rw [HR2.out, HU.out]; exact if_neg hdc
                  have HLE : Hid (c ≤ d) := by show c ≤ d; exact UInt8.not_lt.1 hdc
                  rw [u8_lt] at hdc
                  go_wp2_with fail
                  go_meet
                  exact ⟨d, s6, HR3, HLE, rfl, I7⟩
          case rest =>
            obtain ⟨d, s3, HR3, HLE, rfl, I7⟩ := hcut
            have HX3 : Hid (Rx.part h s0 = some (fun e => h e || Rx.within e c d, s3)) := by show _ = _; rw [HX2.out, HR3.out]
            have hle : c.toNat ≤ d.toNat := UInt8.le_iff_toNat_le.1 HLE.out
            have hd256 := d.toNat_lt
            clear HX2 HR3 HLE I4 cr
            go_wp2_with fail
            go_loopw [9] (fun x9 wr => ∃ k : Nat, c.toNat ≤ k ∧ k ≤ d.toNat + 1 ∧ x9 = .int .i64 k ∧ InSet w wr r b (fun e => h e || (decide (c.toNat ≤ e.toNat) && decide (e.toNat < k))) s3 ext fold) (fun x9 _ => d.toNat + 1 - (intOf x9).toNat)
            case atStart =>
              refine ⟨c.toNat, Nat.le_refl _, by omega, by go_num, ?_⟩
              have e : (fun e : UInt8 => h e || (decide (c.toNat ≤ e.toNat) && decide (e.toNat < c.toNat))) = h := by
                funext e
                by_cases h1 : c.toNat ≤ e.toNat
                · rw [show decide (e.toNat < c.toNat) = false by simp; omega]; simp
                · rw [show decide (c.toNat ≤ e.toNat) = false by simp; omega]; simp
              rw [e]; exact I7
            case round =>
              clear I7
              obtain ⟨k, hck, hkd, rfl, I8⟩ := hrel
              by_cases hlt : k ≤ d.toNat
              · have hk256 : k < 256 := by omega
                have x0 := I8.nd.cell (1 + k) (nd_has _ _ _ _ _ k hk256)
                have f0 := I8.nd.free (1 + k)
                go_wp2_with fail
                refine ⟨⟨k + 1, by omega, by omega, by go_num, ?_⟩, ?_⟩
                · have I9 := I8.set hne k hk256 true
                  rw [setTo_step h c.toNat k hck] at I9
                  exact I9
                · show d.toNat + 1 - ((k : Int) + 1).toNat < d.toNat + 1 - (k : Int).toNat
                  omega
              · obtain rfl : k = d.toNat + 1 := by omega
                go_wp2_with fail
                go_end0
                refine ⟨(hpart.out _ HX3.out _ _).mpr ⟨rfl, I8.rd, ?_⟩, I8.kept⟩
                have e : (fun e : UInt8 => h e || (decide (c.toNat ≤ e.toNat) && decide (e.toNat < d.toNat + 1))) = fun e => h e || Rx.within e c d := by
                  funext e
                  unfold Rx.within
                  congr 1
                  rw [Bool.eq_iff_iff]
                  simp only [Bool.and_eq_true, decide_eq_true_eq, UInt8.le_iff_toNat_le]
                  omega
                have := I8.nd
                rw [e] at this
                exact this
  · rw [hc] at hcls
    have HX : Hid (Rx.part h s = some (h', s')) := by show _ = _; unfold Rx.part; rw [hc]
    clear hb hr hc
    go_enter Tryz.func281, Tryz.ntmps281
    go_wp2_with fail
    refine hcls.mono ?_
    rintro e w' ⟨⟨rfl, hr', hb'⟩, hk⟩
    go_wp2_with fail
    refine bodyPost_ret (results_none rfl _ _ _) rfl ?_
    rw [hpart.out _ HX.out]
    exact ⟨⟨rfl, hr', hb'⟩, hk⟩

end Go.Proofs.YtfgmmaahbngonaaGreatDoor.Rg

/-
  Nodes in memory as the expression's; the walk of bracket. Condition: what is told lies in memory.
-/
namespace Go.Proofs.YtfgmmaahbngonaaGreatDoor.Rg
open Go.RowKit Go.Shelf Go.Maps

abbrev noHas : Rx.Has := fun _ => false
/-- Pointers behind a slice of nodes. -/
def Ptrs (w : World) (k : Nat) (ps : List Nat) : Prop := ∀ i, i < ps.length → w.cell? ⟨k, i, none⟩ = some (.pointer (some ⟨ps.getD i 0, 0, none⟩))

theorem Ptrs.kept {S : Nat → Prop} {w w' : World} {k : Nat} {ps : List Nat} (h : Ptrs w k ps) (hk : Kept S w w') (hS : ¬ S k) : Ptrs w' k ps := by
  intro i hi
  have h1 := h i hi
  have hlt := World.block_lt_of_cell? _ _ h1
  have hb := hk.block k hlt hS
  unfold World.cell? at h1 ⊢
  simp only [hb]
  exact h1

/-- A node of an expression lies at a block, and all blocks that belong to it are some. -/
inductive NdIn (w : World) (M : Nat → Prop) : Nat → Rx.Nd → Prop
  | empty {p : Nat} (hp : M p) (hb : Blk w p (ndCells 0 noHas 0 0 (.slice none 0 0)) 351) : NdIn w M p .empty
  | set {p : Nat} {h : Rx.Has} (hp : M p) (hb : Blk w p (setCells h) 351) : NdIn w M p (.set h)
  | beg {p : Nat} (hp : M p) (hb : Blk w p (ndCells 2 noHas 0 0 (.slice none 0 0)) 351) : NdIn w M p .beg
  | fin {p : Nat} (hp : M p) (hb : Blk w p (ndCells 3 noHas 0 0 (.slice none 0 0)) 351) : NdIn w M p .fin
  | cat {p k c : Nat} {l : List Rx.Nd} {ps : List Nat} (hp : M p) (hb : Blk w p (ndCells 4 noHas 0 0 (.slice (some ⟨k, 0, none⟩) l.length c)) 351)
      (h0 : 1 < l.length) (hc : l.length ≤ c ∧ l.length ≤ 1073741824) (hk : M k) (hl : ps.length = l.length) (hps : Ptrs w k ps) (hn : ∀ i, i < l.length → NdIn w M (ps.getD i 0) (l.getD i .empty)) : NdIn w M p (.cat l)
  | alt {p k c : Nat} {l : List Rx.Nd} {ps : List Nat} (hp : M p) (hb : Blk w p (ndCells 5 noHas 0 0 (.slice (some ⟨k, 0, none⟩) l.length c)) 351)
      (h0 : 1 < l.length) (hc : l.length ≤ c ∧ l.length ≤ 1073741824) (hk : M k) (hl : ps.length = l.length) (hps : Ptrs w k ps) (hn : ∀ i, i < l.length → NdIn w M (ps.getD i 0) (l.getD i .empty)) : NdIn w M p (.alt l)
  | rep {p k q m : Nat} {most : Int} {n : Rx.Nd} (hp : M p) (hb : Blk w p (ndCells 6 noHas m most (.slice (some ⟨k, 0, none⟩) 1 1)) 351)
      (hk : M k) (hps : Ptrs w k [q]) (hn : NdIn w M q n) (hm : m ≤ 255 ∧ -1 ≤ most ∧ most ≤ 255) : NdIn w M p (.rep m most n)

/-- .. all behind a bound. -/
abbrev NdAt (w : World) (B : Nat) : Nat → Rx.Nd → Prop := NdIn w (fun b => B ≤ b)

theorem NdIn.kept {S M : Nat → Prop} {w w' : World} {p : Nat} {n : Rx.Nd} (h : NdIn w M p n) (hk : Kept S w w') (hS : ∀ k, M k → ¬ S k) : NdIn w' M p n := by
  induction h with
  | empty hp hb => exact .empty hp (hb.kept hk (hS _ hp))
  | set hp hb => exact .set hp (hb.kept hk (hS _ hp))
  | beg hp hb => exact .beg hp (hb.kept hk (hS _ hp))
  | fin hp hb => exact .fin hp (hb.kept hk (hS _ hp))
  | cat hp hb h0 hc hk' hl hps _ ih => exact .cat hp (hb.kept hk (hS _ hp)) h0 hc hk' hl (hps.kept hk (hS _ hk')) ih
  | alt hp hb h0 hc hk' hl hps _ ih => exact .alt hp (hb.kept hk (hS _ hp)) h0 hc hk' hl (hps.kept hk (hS _ hk')) ih
  | rep hp hb hk' hps _ hm ih => exact .rep hp (hb.kept hk (hS _ hp)) hk' (hps.kept hk (hS _ hk')) ih hm

theorem NdIn.mono {M M' : Nat → Prop} {w : World} {p : Nat} {n : Rx.Nd} (h : NdIn w M p n) (hB : ∀ k, M k → M' k) : NdIn w M' p n := by
  induction h with
  | empty hp hb => exact .empty (hB _ hp) hb
  | set hp hb => exact .set (hB _ hp) hb
  | beg hp hb => exact .beg (hB _ hp) hb
  | fin hp hb => exact .fin (hB _ hp) hb
  | cat hp hb h0 hc hk' hl hps _ ih => exact .cat (hB _ hp) hb h0 hc (hB _ hk') hl hps ih
  | alt hp hb h0 hc hk' hl hps _ ih => exact .alt (hB _ hp) hb h0 hc (hB _ hk') hl hps ih
  | rep hp hb hk' hps _ hm ih => exact .rep (hB _ hp) hb (hB _ hk') hps ih hm

/-- A node's own block is one of them. -/
theorem NdIn.at_ {M : Nat → Prop} {w : World} {p : Nat} {n : Rx.Nd} (h : NdIn w M p n) : M p := by
  cases h <;> assumption

theorem Ptrs.lt {w : World} {k : Nat} {ps : List Nat} (h : Ptrs w k ps) (h0 : 0 < ps.length) : k < w.heap.size := World.block_lt_of_cell? _ _ (h 0 h0)

/-- Its blocks are there. -/
theorem NdIn.lt {M : Nat → Prop} {w : World} {p : Nat} {n : Rx.Nd} (h : NdIn w M p n) : NdIn w (fun k => M k ∧ k < w.heap.size) p n := by
  induction h with
  | empty hp hb => exact .empty ⟨hp, hb.lt⟩ hb
  | set hp hb => exact .set ⟨hp, hb.lt⟩ hb
  | beg hp hb => exact .beg ⟨hp, hb.lt⟩ hb
  | fin hp hb => exact .fin ⟨hp, hb.lt⟩ hb
  | cat hp hb h0 hc hk' hl hps _ ih => exact .cat ⟨hp, hb.lt⟩ hb h0 hc ⟨hk', hps.lt (by omega)⟩ hl hps ih
  | alt hp hb h0 hc hk' hl hps _ ih => exact .alt ⟨hp, hb.lt⟩ hb h0 hc ⟨hk', hps.lt (by omega)⟩ hl hps ih
  | rep hp hb hk' hps _ hm ih => exact .rep ⟨hp, hb.lt⟩ hb ⟨hk', hps.lt (by simp)⟩ hps ih hm

/-- What a reader's function hands back and leaves: a node, or it gives up. -/
def NodePost (B : Nat) (r : Nat) (ext fold : Bool) (x : Option (Rx.Nd × Rx.Bytes)) (e : Ending) (w' : World) : Prop := match x with
  | none => e = .panicked [{ v := brokenV, recovered := false }]
  | some (n, s') => ∃ p, e = .returned (.pointer (some ⟨p, 0, none⟩)) ∧ RdAt w' r s' ext fold ∧ NdAt w' B p n

theorem take_len {t s s' : Rx.Bytes} (h : Rx.take t s = some s') : s'.length ≤ s.length := by
  unfold Rx.take at h; split at h
  · cases h; simp
  · cases h
theorem cls_len {h : Rx.Has} {s : Rx.Bytes} {x : Rx.Has × Rx.Bytes} (hc : Rx.cls h s = some (some x)) : x.2.length < s.length := by
  unfold Rx.cls at hc
  cases ht : Rx.take [91, 58] s with
  | none => simp [ht] at hc
  | some t =>
    simp only [ht] at hc
    have hl : t.length < s.length := by
      unfold Rx.take at ht; split at ht
      · rename_i hp
        have := List.IsPrefix.length_le (List.isPrefixOf_iff_prefix.1 hp)
        cases ht; simp at this ⊢; omega
      · cases ht
    rcases cut_shut t with ⟨h1, h2⟩ | ⟨h1, h2⟩
    · rw [h2] at hc
      simp only [] at hc
      split at hc
      · cases hc
      · cases hc; simp; omega
    · rw [h2] at hc; simp at hc
theorem upper_len {s s' : Rx.Bytes} {c : UInt8} (h : Rx.upper s = some (c, s')) : s'.length < s.length := by
  unfold Rx.upper at h
  split at h
  · rename_i x hx; cases h; exact named_len hx
  · split at h
    · rename_i x hx; cases h; exact named_len hx
    · split at h
      · cases h
      · cases h; simp
theorem part_len {h h' : Rx.Has} {s s' : Rx.Bytes} (hp : Rx.part h s = some (h', s')) : s'.length < s.length := by
  unfold Rx.part at hp
  split at hp
  · cases hp
  · rename_i x hx; cases hp; exact cls_len hx
  · split at hp
    · rename_i x hx; cases hp; exact named_len hx
    · split at hp
      · cases hp
      · rename_i c t ht
        have h1 := lower_len ht
        split at hp
        · cases hp
        · rename_i d r2 hr
          cases hp
          unfold Rx.rangeOf at hr
          split at hr
          · split at hr
            · cases hr
            · rename_i d' r2' hu
              have h2 := upper_len hu
              split at hr
              · cases hr
              · cases hr
                have : t.tail.length ≤ t.length := by simp
                omega
          · cases hr; exact h1

/-- The length of the string in a reader. -/
def lenAt (w : World) (r : Nat) : Nat := match w.cell? ⟨r, 0, none⟩ with
  | some (.string s) => s.size
  | _ => 0
theorem lenAt_rd {w : World} {r : Nat} {s : Rx.Bytes} {ext fold : Bool} (h : RdAt w r s ext fold) : lenAt w r = s.length := by
  have c0 : w.cell? ⟨r, 0, none⟩ = some (.string ⟨s.toArray⟩) := Blk.cell h 0 rfl
  unfold lenAt
  rw [c0]
  simp [ByteArray.size]

/-- take of one byte. -/
theorem take_one (r : Nat) (c : UInt8) (s : Rx.Bytes) (ext fold : Bool) (w : World) (h : RdAt w r s ext fold) :
    Calls Tryz.prog 243 #[.pointer (some ⟨r, 0, none⟩), .string ⟨#[c]⟩] w fun e w' => (∃ is s1, e = .returned (.bool is) ∧ RdAt w' r s1 ext fold ∧ Hid ((is = true ∧ s = c :: s1) ∨ (is = false ∧ s1 = s ∧ s.head? ≠ some c))) ∧ Kept (· = r) w w' := by
  refine (take_any r [c] s ext fold w h).mono ?_
  rintro e w' ⟨h1, hk⟩
  refine ⟨?_, hk⟩
  unfold TakePost Rx.take at h1
  cases s with
  | nil => exact ⟨false, [], h1.1, h1.2, .inr ⟨rfl, rfl, by simp⟩⟩
  | cons d t =>
    by_cases hd : c = d
    · subst hd
      simp at h1
      exact ⟨true, t, h1.1, h1.2, .inl ⟨rfl, rfl⟩⟩
    · have hp : ([c] : Rx.Bytes).isPrefixOf (d :: t) = false := by simp [List.isPrefixOf, hd]
      rw [hp] at h1
      exact ⟨false, d :: t, h1.1, h1.2, .inr ⟨rfl, rfl, by simpa using fun e => hd e.symm⟩⟩

theorem take_cons (c : UInt8) (s : Rx.Bytes) : Rx.take [c] (c :: s) = some s := by simp [Rx.take]
theorem take_not {c : UInt8} {s : Rx.Bytes} (h : s.head? ≠ some c) : Rx.take [c] s = none := by
  unfold Rx.take
  cases s with
  | nil => simp
  | cons d t =>
    have : ([c] : Rx.Bytes).isPrefixOf (d :: t) = false := by
      have : ¬ c = d := fun e => h (by simp [e])
      simp [List.isPrefixOf, this]
    rw [this]; rfl
theorem prefix_one (c : UInt8) (s : Rx.Bytes) : ([c] : Rx.Bytes).isPrefixOf s = (s.head? == some c) := by
  cases s with
  | nil => rfl
  | cons d t =>
    rw [Bool.eq_iff_iff]; simp [List.isPrefixOf]; exact eq_comm

theorem neq_step (h : Rx.Has) (v : Bool) (j : Nat) (hj : j < 256) : (fun c : UInt8 => if c.toNat = j then (h (UInt8.ofNat j) != v) else if c.toNat < j then h c != v else h c) = fun c => if c.toNat < j + 1 then h c != v else h c := by
  funext c
  have ej : (UInt8.ofNat j).toNat = j := by simp [UInt8.toNat_ofNat']; omega
  by_cases h1 : c.toNat = j
  · obtain rfl : c = UInt8.ofNat j := UInt8.toNat_inj.1 (by rw [ej, h1])
    rw [if_pos ej, if_pos (by omega)]
  · rw [if_neg h1]
    by_cases h2 : c.toNat < j
    · rw [if_pos h2, if_pos (by omega)]
    · rw [if_neg h2, if_neg (by omega)]

set_option maxHeartbeats 1600000 in
set_option maxRecDepth 100000 in
theorem bracket_any (r : Nat) (s : Rx.Bytes) (ext fold : Bool) (w : World) (hr : Rd w r s ext fold) :
    Calls Tryz.prog 270 #[.pointer (some ⟨r, 0, none⟩)] w fun e w' => NodePost w.heap.size r ext fold (Rx.bracket fold s) e w' ∧ Kept (· = r) w w' := by
  have HP : Hid (∀ x, Rx.bracket fold s = x → ∀ e w', NodePost w.heap.size r ext fold x e w' → NodePost w.heap.size r ext fold (Rx.bracket fold s) e w') := by
    rintro x rfl e w' h; exact h
  generalize hpost : NodePost w.heap.size r ext fold (Rx.bracket fold s) = POST at HP ⊢
  clear hpost
  have hrlt := hr.lt
  have HR := Lib.hid hr
  clear hr
  go_enter Tryz.func270, Tryz.ntmps270
  go_upto_region 2 with fail
  rw [nd_new]
  have hb := Blk.new w (setCells noHas) 351
  have hk1 : Kept (fun k => k = r ∨ k = w.heap.size) w (w.alloc (.cells (setCells noHas) 351)) := (Kept.refl _ _).alloc _
  have hr1 := HR.out.at_.alloc (.cells (setCells noHas) 351)
  have HR1 : Hid (Rd (w.alloc (.cells (setCells noHas) 351)) r s ext fold) := by
    show Rd _ _ _ _ _
    exact HR.out.self ((Kept.refl _ _).alloc _) hr1 (Nat.le_refl _)
  show Code.wp _ _ _ _ (w.alloc (.cells (setCells noHas) 351))
  generalize w.alloc (.cells (setCells noHas) 351) = w1 at *
  have I : InSet w w1 r w.heap.size noHas s ext fold := ⟨hr1, hb, hk1⟩
  have hne : r ≠ w.heap.size := by omega
  generalize hbs : w.heap.size = b at *
  clear hb hk1 hr1
  have ht := take_one r 94 s ext fold w1 I.rd
  clear HR1
  go_wp2_with fail
  refine ht.mono ?_
  rintro e w2 ⟨⟨not, s1, rfl, hr2, HT⟩, hk2⟩
  have I2 := I.go hne hr2 hk2
  clear hr2 hk2 I ht w1
  have hl1 : s1.length ≤ s.length := by
    rcases HT.out with ⟨-, rfl⟩ | ⟨-, rfl, -⟩
    · simp
    · exact Nat.le_refl _
  have HB : Hid (Rx.bracket fold s = match Rx.parts (s1.length + 1) true noHas s1 with
    | none => none
    | some (h, s2) => match Rx.take [93] s2 with
      | none => none
      | some s3 => some (.set fun c => Rx.folds fold h c != not, s3)) := by
    show _ = _
    rcases HT.out with ⟨rfl, rfl⟩ | ⟨rfl, rfl, hh⟩
    · rfl
    · have : (s1.head? == some 94) = false := by simpa using hh
      unfold Rx.bracket
      rw [this]; rfl
  have HRd : Hid (∀ wx h s', InSet w wx r b h s' ext fold → s'.length ≤ s.length → Rd wx r s' ext fold) := by
    intro wx h s' I hl
    have h8 := HR.out.hr
    exact HR.out.next I.kept (by rintro k (rfl | rfl) <;> omega) I.rd hl
  clear HT
  generalize hP : Rx.parts (s1.length + 1) true noHas s1 = PARTS at HB
  have HP0 := Lib.hid hP
  clear hP
  go_wp2_with fail
  go_loopw [5] (fun x5 wr => ∃ first h s', x5 = .bool first ∧ InSet w wr r b h s' ext fold ∧ s'.length ≤ s1.length ∧ Hid (∃ f, s'.length < f ∧ Rx.parts f first h s' = PARTS)) (fun _ wr => lenAt wr r)
  case atStart => exact ⟨true, noHas, s1, rfl, I2, Nat.le_refl _, ⟨s1.length + 1, by omega, HP0.out⟩⟩
  case round =>
    clear I2 HP0
    obtain ⟨first, h, s', rfl, I3, hl3, HF⟩ := hrel
    have cr := I3.cell
    have hpre := hasPrefix_any s' [93]
    rw [prefix_one] at hpre
    go_upto_region 4 with fail
    go_cut [11, 12, 13, 14, 15, 16, 17, 18, 19] (fun _ _ _ _ _ _ _ _ s19 wx => s19 = .bool (first || !(s'.head? == some 93)) ∧ wx = wr)
    case first =>
      cases first with
      | true =>
        go_wp2_with fail
        go_meet
        exact ⟨rfl, rfl⟩
      | false =>
        go_wp2_with fail
        refine (hpre _).mono ?_
        rintro e wx ⟨rfl, rfl⟩
        go_wp2_with fail
        go_meet
        exact ⟨rfl, rfl⟩
    case rest =>
      obtain ⟨rfl, rfl⟩ := hcut
      clear hpre
      cases hco : first || !(s'.head? == some 93) with
      | true =>
        cases s' with
        | nil =>
          have HN : Hid (PARTS = none) := by
            obtain ⟨f, hf, hp⟩ := HF.out
            show PARTS = none
            rw [← hp]
            cases f with
            | zero => rfl
            | succ f => simp [Rx.parts]
          clear HF hco
          go_wp2_with fail
          refine (fail_any _).mono ?_
          rintro e w4 ⟨rfl, rfl⟩
          go_wp2_with fail
          exact ⟨rfl, HP.out none (by rw [HB.out, HN.out]) _ _ rfl, I3.kept.mono fun k hk h => by omega⟩
        | cons d t =>
          have hpt := part_any r b h (d :: t) ext fold _ (HRd.out _ _ _ I3 (by omega)) I3.nd
          unfold PartPost at hpt
          have HF2 : Hid (∃ f, (d :: t).length ≤ f ∧ (match Rx.part h (d :: t) with
              | none => none
              | some (h2, s2) => Rx.parts f false h2 s2) = PARTS) := by
            obtain ⟨f, hf, hp⟩ := HF.out
            cases f with
            | zero => omega
            | succ f =>
              refine ⟨f, by omega, ?_⟩
              rw [← hp]
              have : (!first && (d :: t).head? == some 93) = false := by
                cases first
                · simpa using hco
                · rfl
              simp only [Rx.parts]
              rw [this, if_neg (by simp), if_neg (by simp)]
              rfl
          clear HF hco
          cases hp : Rx.part h (d :: t) with
          | none =>
            rw [hp] at hpt
            have HN : Hid (PARTS = none) := by obtain ⟨f, -, h2⟩ := HF2.out; rw [hp] at h2; exact h2.symm
            clear HF2 hp
            go_wp2_with fail
            refine hpt.mono ?_
            rintro e w4 ⟨rfl, hk4⟩
            go_wp2_with fail
            exact ⟨rfl, HP.out none (by rw [HB.out, HN.out]) _ _ rfl, (I3.kept.trans hk4).mono fun k hk h => by omega⟩
          | some x =>
            obtain ⟨h2, s2⟩ := x
            rw [hp] at hpt
            have hl2 := part_len hp
            have HF3 : Hid (∃ f, s2.length < f ∧ Rx.parts f false h2 s2 = PARTS) := by
              obtain ⟨f, hf, h2⟩ := HF2.out
              rw [hp] at h2
              exact ⟨f, by omega, h2⟩
            have hm := lenAt_rd I3.rd
            clear HF2 hp
            go_wp2_with fail
            refine hpt.mono ?_
            rintro e w4 ⟨⟨rfl, hr4, hb4⟩, hk4⟩
            have hm4 := lenAt_rd hr4
            have I4 : InSet w w4 r b h2 s2 ext fold := ⟨hr4, hb4, I3.kept.trans hk4⟩
            clear hr4 hb4 hk4 I3 cr hpt
            go_wp2_with fail
            refine ⟨⟨false, h2, s2, rfl, I4, by omega, HF3⟩, ?_⟩
            rw [hm, hm4]; exact hl2
      | false =>
        have hfs : first = false ∧ s'.head? = some 93 := by
          cases first
          · simpa using hco
          · simp at hco
        obtain ⟨rfl, hh⟩ := hfs
        obtain ⟨t, rfl⟩ : ∃ t, s' = 93 :: t := by
          cases s' with
          | nil => simp at hh
          | cons d t => simp at hh; exact ⟨t, by rw [hh]⟩
        have HX : Hid (Rx.bracket fold s = some (.set fun c => Rx.folds fold h c != not, t)) := by
          obtain ⟨f, hf, hp⟩ := HF.out
          show _ = _
          rw [HB.out, ← hp]
          cases f with
          | zero => omega
          | succ f =>
            have : Rx.parts (f + 1) false h (93 :: t) = some (h, 93 :: t) := by simp [Rx.parts]
            rw [this]
            simp only [take_cons]
        have hm := must_any r [93] (93 :: t) ext fold _ I3.rd
        unfold MustPost at hm
        rw [take_cons] at hm
        clear HF hco hh HB
        go_wp2_with fail
        refine hm.mono ?_
        rintro e w4 ⟨⟨rfl, hr4⟩, hk4⟩
        have I4 := I3.go hne hr4 hk4
        clear hr4 hk4 I3 cr hm
        have hf := folds_any r b 1 0 0 (.slice none 0 0) h t ext fold w4 I4.rd I4.nd
        go_wp2_with fail
        refine hf.mono ?_
        rintro e w5 ⟨rfl, hb5, hk5⟩
        have I5 : InSet w w5 r b (Rx.folds fold h) t ext fold := ⟨I4.rd.kept hk5 hne, hb5, I4.kept.trans (hk5.mono fun _ _ h => .inr h)⟩
        clear hb5 hk5 I4 hf
        generalize Rx.folds fold h = g at *
        go_wp2_with fail
        go_loopw [6, 34] (fun _x6 x34 wr => ∃ j : Nat, j ≤ 256 ∧ x34 = .int .i64 j ∧ InSet w wr r b (fun c => if c.toNat < j then g c != not else g c) t ext fold) (fun _ x34 _ => 256 - (intOf x34).toNat)
        case atStart => exact ⟨0, Nat.zero_le _, rfl, by simpa using I5⟩
        case round =>
          clear I5
          obtain ⟨j, hj, rfl, I6⟩ := hrel
          by_cases hlt : j < 256
          · have c0 := I6.nd.cell (1 + j) (nd_has _ _ _ _ _ j hlt)
            have f0 := I6.nd.free (1 + j)
            have ej : (UInt8.ofNat j).toNat = j := by simp [UInt8.toNat_ofNat']; omega
            rw [ej, if_neg (Nat.lt_irrefl j)] at c0
            have HS := Lib.hid (neq_step g not j hlt)
            generalize g (UInt8.ofNat j) = y at *
            go_wp2_with fail
            go_region
            all_goals go_wp2_with fail
            all_goals
              refine ⟨⟨j + 1, by omega, by go_num, ?_⟩, ?_⟩
              · have I7 := I6.set hne j hlt (y != not)
                rw [HS.out] at I7
                exact ⟨I7.rd.drew, I7.nd.drew, I7.kept.drew⟩
              · show 256 - ((j : Int) + 1).toNat < 256 - (j : Int).toNat
                omega
          · obtain rfl : j = 256 := by omega
            go_wp2_with fail
            go_ret
            have e : (fun c : UInt8 => if c.toNat < 256 then g c != not else g c) = fun c => g c != not := by
              funext c
              rw [if_pos c.toNat_lt]
            rw [e] at I6
            exact ⟨HP.out _ HX.out _ _ ⟨b, rfl, I6.rd, .set (Nat.le_refl _) I6.nd⟩, I6.kept.mono fun k hk h => by omega⟩

end Go.Proofs.YtfgmmaahbngonaaGreatDoor.Rg
