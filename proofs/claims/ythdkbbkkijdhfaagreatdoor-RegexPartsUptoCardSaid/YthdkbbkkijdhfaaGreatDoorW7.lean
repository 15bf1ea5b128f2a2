/-
  The walk of class. Condition: what is told lies in memory.
-/
import Derived.Test.YthdkbbkkijdhfaaGreatDoorW6
import Derived.Deep.RegionWith
import Derived.Laws.EntriesVeiled
namespace Go.Proofs.YthdkbbkkijdhfaaGreatDoor
open Go.RowKit Go.Shelf Go.Maps

theorem Kept.drewN {S : Nat → Prop} {w w' : World} (h : Kept S w w') (n : Nat) : Kept S w (w'.drewN n) := ⟨h.os, h.tape, h.output, h.size, h.block⟩

theorem cut_shut (t : Rx.Bytes) : (0 ≤ Lib.index t [58, 93] ∧ Rx.cutShut t = some (t.take (Lib.index t [58, 93]).toNat, t.drop ((Lib.index t [58, 93]).toNat + 2))) ∨ (Lib.index t [58, 93] = -1 ∧ Rx.cutShut t = none) := by
  induction t with
  | nil => right; exact ⟨rfl, rfl⟩
  | cons c r ih =>
    by_cases hc : c = 58 ∧ r.head? = some 93
    · left
      have hi : Lib.index (c :: r) [58, 93] = 0 := by
        obtain ⟨rfl, h2⟩ := hc
        cases r with
        | nil => cases h2
        | cons d q => simp at h2; subst h2; simp [Lib.index]
      rw [hi]
      refine ⟨Int.le_refl _, ?_⟩
      simp only [Rx.cutShut]
      rw [if_pos hc]
      simp
    · have hp : ([58, 93] : List UInt8).isPrefixOf (c :: r) = false := by
        rw [Bool.eq_false_iff]; intro h; apply hc
        cases r with
        | nil => simp at h
        | cons d q => simp at h; exact ⟨h.1.symm, by simp [h.2]⟩
      have hx : Rx.cutShut (c :: r) = (Rx.cutShut r).map fun x => (c :: x.1, x.2) := by simp only [Rx.cutShut]; rw [if_neg hc]
      have hi : Lib.index (c :: r) [58, 93] = if Lib.index r [58, 93] == -1 then -1 else Lib.index r [58, 93] + 1 := by
        rw [Lib.index, if_neg (by rw [hp]; decide)]
      rcases ih with ⟨h1, h2⟩ | ⟨h1, h2⟩
      · left
        have hne : (Lib.index r [58, 93] == -1) = false := by rw [beq_eq_false_iff_ne]; omega
        rw [hi, hne]
        simp only [Bool.false_eq_true, if_false]
        refine ⟨by omega, ?_⟩
        rw [hx, h2]
        have e : (Lib.index r [58, 93] + 1).toNat = (Lib.index r [58, 93]).toNat + 1 := by omega
        rw [e]
        simp
      · right
        rw [hi, h1, hx, h2]
        exact ⟨rfl, rfl⟩

def cutVal (t : Rx.Bytes) : Value := match Rx.cutShut t with
  | some (a, b) => .tuple #[.string ⟨a.toArray⟩, .string ⟨b.toArray⟩, .bool true]
  | none => .tuple #[.string ⟨t.toArray⟩, .string ⟨#[]⟩, .bool false]

theorem cut_any (t : Rx.Bytes) (hl : t.length < 1073741824) (w : World) (hg : Glo w) :
    Calls Tryz.prog 125 #[.string ⟨t.toArray⟩, .string ⟨#[58, 93]⟩] w fun e w' => e = .returned (cutVal t) ∧ ∃ n, w' = w.drewN n := by
  obtain ⟨m, hm⟩ := hg.mx
  refine (Any.strings_Cut Tryz.lays145 ⟨t.toArray⟩ ⟨#[58, 93]⟩ m w (by simp [ByteArray.size]; omega) hm).mono ?_
  rintro e w' ⟨rfl, h⟩
  refine ⟨?_, h⟩
  unfold cutVal Lib.cut
  rcases cut_shut t with ⟨h1, h2⟩ | ⟨h1, h2⟩
  · rw [h2]
    simp only []
    rw [if_pos h1]
    rfl
  · rw [h2, h1]
    rfl

theorem zero_class (w : World) : (zeroValue 162).run Tryz.prog w = .ok (.agg #[.nilFunc]) w := by kernel_rfl

/-- The cells of a set's node. -/
abbrev setCells (h : Rx.Has) : Array Value := ndCells 1 h 0 0 (.slice none 0 0)

theorem cls_step (h k : Rx.Has) (j : Nat) (hj : j < 256) : (fun c : UInt8 => if c.toNat = j then (h (UInt8.ofNat j) || k (UInt8.ofNat j)) else if c.toNat < j then h c || k c else h c) = fun c => if c.toNat < j + 1 then h c || k c else h c := by
  funext c
  have ej : (UInt8.ofNat j).toNat = j := by simp [UInt8.toNat_ofNat']; omega
  by_cases h1 : c.toNat = j
  · obtain rfl : c = UInt8.ofNat j := UInt8.toNat_inj.1 (by rw [ej, h1])
    rw [if_pos ej, if_pos (by omega)]
  · rw [if_neg h1]
    by_cases h2 : c.toNat < j
    · rw [if_pos h2, if_pos (by omega)]
    · rw [if_neg h2, if_neg (by omega)]

def ClassPost (r b : Nat) (h : Rx.Has) (s : Rx.Bytes) (ext fold : Bool) (e : Ending) (w' : World) : Prop := match Rx.cls h s with
  | none => e = .panicked [{ v := brokenV, recovered := false }]
  | some none => e = .returned (.bool false) ∧ RdAt w' r s ext fold ∧ Blk w' b (setCells h) 87
  | some (some (h', s')) => e = .returned (.bool true) ∧ RdAt w' r s' ext fold ∧ Blk w' b (setCells h') 87

set_option maxHeartbeats 1600000 in
set_option maxRecDepth 100000 in
theorem class_any (r b : Nat) (h : Rx.Has) (s : Rx.Bytes) (ext fold : Bool) (w : World) (hr : Rd w r s ext fold) (hb : Blk w b (setCells h) 87) :
    Calls Tryz.prog 114 #[.pointer (some ⟨r, 0, none⟩), .pointer (some ⟨b, 0, none⟩)] w fun e w' => ClassPost r b h s ext fold e w' ∧ Kept (fun k => k = r ∨ k = b) w w' := by
  have hne := rd_ne hr.at_ hb
  have hcp := Any.strings_CutPrefix Tryz.lays103 ⟨s.toArray⟩ ⟨#[91, 58]⟩
  have c0 : w.cell? ⟨r, 0, none⟩ = some (.string ⟨s.toArray⟩) := Blk.cell hr.at_ 0 rfl
  have f0 := hr.at_.free 0
  unfold ClassPost
  cases ht : Rx.take [91, 58] s with
  | none =>
    have hpre : Lib.hasPrefix s [91, 58] = false := by
      unfold Rx.take at ht; split at ht
      · cases ht
      · rename_i h; exact Bool.eq_false_iff.2 h
    have e1 : Rx.cls h s = some none := by simp only [Rx.cls, ht]
    rw [e1]
    simp only [hpre] at hcp
    have HR := Lib.hid hr
    clear ht hpre e1 hr
    generalize Lib.trimPrefix s [91, 58] = u at hcp
    go_enter Tryz.func114, Tryz.ntmps114
    go_wp2_with fail
    refine (hcp _).mono ?_
    rintro e w' ⟨rfl, rfl⟩
    go_wp2_with fail
    go_ret
    exact ⟨⟨rfl, HR.out.at_, hb⟩, Kept.refl _ _⟩
  | some t =>
    have hpre : Lib.hasPrefix s [91, 58] = true ∧ Lib.trimPrefix s [91, 58] = t := by
      unfold Rx.take at ht; split at ht
      · rename_i h; cases ht; exact ⟨h, by unfold Lib.trimPrefix; exact if_pos h⟩
      · cases ht
    simp only [hpre.1, hpre.2] at hcp
    have hlt : t.length ≤ s.length := by
      unfold Rx.take at ht; split at ht
      · cases ht; simp
      · cases ht
    have hct := cut_any t (by have := hr.len; omega)
    unfold cutVal at hct
    cases hc : Rx.cutShut t with
    | none =>
      rw [hc] at hct
      have e1 : Rx.cls h s = some none := by simp only [Rx.cls, ht, hc]
      rw [e1]
      have HR := Lib.hid hr
      clear ht hpre e1 hr hc hlt
      go_enter Tryz.func114, Tryz.ntmps114
      go_wp2_with fail
      refine (hcp _).mono ?_
      rintro e w' ⟨rfl, rfl⟩
      go_wp2_with fail
      refine (hct _ HR.out.glo).mono ?_
      rintro e w' ⟨rfl, n, rfl⟩
      go_wp2_with fail
      go_ret
      exact ⟨⟨rfl, HR.out.at_.drewN n, hb.drewN n⟩, (Kept.refl _ _).drewN n⟩
    | some x =>
      obtain ⟨name, rest⟩ := x
      have hnl : name.length ≤ 1073741824 := by
        have := hr.len
        rcases cut_shut t with ⟨h1, h2⟩ | ⟨h1, h2⟩
        · rw [hc] at h2; simp at h2; obtain ⟨rfl, -⟩ := h2; simp; omega
        · rw [hc] at h2; cases h2
      rw [hc] at hct
      have hlook := cls_look name (.lit (.int .i64 (-1)))
      have hcls := fun w => classes_any w
      have HR := Lib.hid hr
      have hz := zero_class
      have hz2 : clsElem (.agg #[.nilFunc]) = some (.lit (.int .i64 (-1)), []) := rfl
      cases hk : Rx.classOf name with
      | none =>
        have e1 : Rx.cls h s = none := by simp only [Rx.cls, ht, hc, hk]
        rw [e1]
        rw [hk] at hlook
        clear ht hpre e1 hr hc hlt hk
        go_enter Tryz.func114, Tryz.ntmps114
        go_wp2_with fail
        refine (hcp _).mono ?_
        rintro e w' ⟨rfl, rfl⟩
        go_wp2_with fail
        refine (hct _ HR.out.glo).mono ?_
        rintro e w' ⟨rfl, n, rfl⟩
        go_wp2_with fail
        refine (hcls _).mono ?_
        rintro e w2 ⟨rfl, hown, hbel⟩
        obtain ⟨v, ps, hrun, hv⟩ := hown.look_ok kStr Tryz.underlying164 (hz w2) hz2 (key := .string ⟨name.toArray⟩) (kl := .string name) (Go.WideMaps.keyOf_string_mk Tryz.underlying9 (by simp [ByteArray.size, maxLen]; omega))
        rw [show Maps.has clsData (.string name) = false from hlook.1, show (w'.drewN n).heap.size = w'.heap.size from rfl] at hrun
        rw [show clsData.atKey (.string name) _ = _ from hlook.2] at hv
        obtain rfl := clsElem_nil hv
        have hbel2 : Below w'.heap.size w' w2 := ⟨hbel.os, hbel.tape, hbel.output, hbel.size, hbel.block⟩
        have c1 : (w2.alloc (.cells #[.nilFunc] 162)).cell? ⟨w2.heap.size, 0, none⟩ = some .nilFunc := (Blk.new w2 #[.nilFunc] 162).cell 0 rfl
        have f1 : (w2.alloc (.cells #[.nilFunc] 162)).frozen? ⟨w2.heap.size, 0, none⟩ = false := (Blk.new w2 #[.nilFunc] 162).free 0
        clear hown hlook hv hz hz2 hbel
        go_wp2_with fail
        refine (fail_any _).mono ?_
        rintro e w3 ⟨rfl, rfl⟩
        go_wp2_with fail
        exact ⟨rfl, rfl, ((Kept.of_below hbel2).alloc _).mono (fun _ _ h => .inl h)⟩
      | some k =>
        have e1 : Rx.cls h s = some (some (fun c => h c || k c, rest)) := by simp only [Rx.cls, ht, hc, hk]
        rw [e1]
        rw [hk] at hlook
        obtain ⟨hl1, fn, hl2, hfe, hfn⟩ := hlook
        clear ht hpre e1 hr hc hlt hk
        go_enter Tryz.func114, Tryz.ntmps114
        go_wp2_with fail
        refine (hcp _).mono ?_
        rintro e w' ⟨rfl, rfl⟩
        go_wp2_with fail
        refine (hct _ HR.out.glo).mono ?_
        rintro e w' ⟨rfl, n, rfl⟩
        go_wp2_with fail
        refine (hcls _).mono ?_
        rintro e w2 ⟨rfl, hown, hbel⟩
        obtain ⟨v, ps, hrun, hv⟩ := hown.look_ok kStr Tryz.underlying164 (hz w2) hz2 (key := .string ⟨name.toArray⟩) (kl := .string name) (Go.WideMaps.keyOf_string_mk Tryz.underlying9 (by simp [ByteArray.size, maxLen]; omega))
        rw [hl1, show (w'.drewN n).heap.size = w'.heap.size from rfl] at hrun
        rw [hl2] at hv
        obtain rfl := clsElem_inv hv
        have hbel2 : Below w'.heap.size w' w2 := ⟨hbel.os, hbel.tape, hbel.output, hbel.size, hbel.block⟩
        have c1 : (w2.alloc (.cells #[.nilFunc] 162)).cell? ⟨w2.heap.size, 0, none⟩ = some .nilFunc := (Blk.new w2 #[.nilFunc] 162).cell 0 rfl
        have f1 : (w2.alloc (.cells #[.nilFunc] 162)).frozen? ⟨w2.heap.size, 0, none⟩ = false := (Blk.new w2 #[.nilFunc] 162).free 0
        unfold clsFn at hrun
        clear hown hl1 hl2 hv hz hz2 hbel
        go_wp2_with fail
        have hR2 : RdAt (w2.alloc (.cells #[.func (.func fn) #[] #[]] 162)) r s ext fold := (HR.out.at_.keep hbel2 HR.out.lt).alloc _
        have hb2 := (hb.keep hbel2 hb.lt).alloc (.cells #[.func (.func fn) #[] #[]] 162)
        have hq := Blk.new w2 #[.func (.func fn) #[] #[]] 162
        have hk2 := (Kept.of_below (S := fun k => k = r ∨ k = b) hbel2).alloc (.cells #[.func (.func fn) #[] #[]] 162)
        have hqb : w2.heap.size ≠ b := by have := hb.lt; have := hbel2.size; omega
        have hqr : w2.heap.size ≠ r := by have := HR.out.lt; have := hbel2.size; omega
        clear hb c0 f0 hrun c1 f1 hbel2
        generalize w2.heap.size = q at *
        generalize w2.alloc (.cells #[.func (.func fn) #[] #[]] 162) = w3 at *
        go_loopw [11, 39] (fun _x11 x39 wr => ∃ j : Nat, j ≤ 256 ∧ x39 = .int .i64 j ∧ Blk wr b (setCells fun c => if c.toNat < j then h c || k c else h c) 87 ∧ RdAt wr r s ext fold ∧ Blk wr q #[.func (.func fn) #[] #[]] 162 ∧ Kept (fun k => k = r ∨ k = b) w' wr) (fun _ x39 _ => 256 - (intOf x39).toNat)
        case atStart => exact ⟨0, Nat.zero_le _, rfl, by simpa using hb2, hR2, hq, hk2⟩
        case round =>
          clear hb2 hR2 hq hk2
          obtain ⟨j, hj, rfl, hb2, hR2, hq, hk2⟩ := hrel
          by_cases hlt : j < 256
          · have c0 := hb2.cell (1 + j) (nd_has _ _ _ _ _ j hlt)
            have f0 := hb2.free (1 + j)
            have ej : (UInt8.ofNat j).toNat = j := by simp [UInt8.toNat_ofNat']; omega
            rw [ej, if_neg (Nat.lt_irrefl j)] at c0
            have c1 := hq.cell 0 (v := .func (.func fn) #[] #[]) rfl
            have hf := hfn (UInt8.ofNat j)
            rw [ej] at hf
            have ew : IntKind.u8.wrap (j : Int) = j := by simp [IntKind.wrap, IntKind.signed, IntKind.bits]; omega
            have hf' : ∀ w, Calls Tryz.prog fn #[.int .u8 (IntKind.u8.wrap (j : Int))] w fun e w' => e = .returned (.bool (k (UInt8.ofNat j))) ∧ w = w' := fun w => by rw [ew]; exact hf w
            clear hf ew
            cases hh : h (UInt8.ofNat j) with
            | true =>
              rw [hh] at c0
              go_wp2_with fail
              go_region
              all_goals go_wp2_with fail
              refine ⟨⟨j + 1, by omega, by go_num, ?_, (hR2.setOther (a := ⟨b, 1 + j, none⟩) hne _).drew, (hq.setOther (a := ⟨b, 1 + j, none⟩) hqb _).drew, (hk2.setCell (.inl (.inr rfl)) _ _).drew⟩, ?_⟩
              · have h5 := (hb2.set (1 + j) (.bool (h (UInt8.ofNat j) || k (UInt8.ofNat j)))).drew
                unfold setCells at h5 ⊢
                rw [nd_set _ _ _ _ _ _ hlt, cls_step h k j hlt, hh] at h5
                exact h5
              · show 256 - ((j : Int) + 1).toNat < 256 - (j : Int).toNat
                omega
            | false =>
              rw [hh] at c0
              go_wp2_with fail
              go_region_with (go_at_fn fn; refine (hf' _).mono ?_; rintro e w4 ⟨rfl, rfl⟩)
              all_goals go_wp2_with fail
              refine ⟨⟨j + 1, by omega, by go_num, ?_, (hR2.setOther (a := ⟨b, 1 + j, none⟩) hne _).drew, (hq.setOther (a := ⟨b, 1 + j, none⟩) hqb _).drew, (hk2.setCell (.inl (.inr rfl)) _ _).drew⟩, ?_⟩
              · have h5 := (hb2.set (1 + j) (.bool (h (UInt8.ofNat j) || k (UInt8.ofNat j)))).drew
                unfold setCells at h5 ⊢
                rw [nd_set _ _ _ _ _ _ hlt, cls_step h k j hlt, hh] at h5
                exact h5
              · show 256 - ((j : Int) + 1).toNat < 256 - (j : Int).toNat
                omega
          · obtain rfl : j = 256 := by omega
            have c0 : wr.cell? ⟨r, 0, none⟩ = some (.string ⟨s.toArray⟩) := Blk.cell hR2 0 rfl
            have f0 := hR2.free 0
            go_wp2_with fail
            go_ret
            have e : (fun c : UInt8 => if c.toNat < 256 then h c || k c else h c) = fun c => h c || k c := by
              funext c
              rw [if_pos c.toNat_lt]
            rw [e] at hb2
            exact ⟨⟨rfl, hR2.set 0 _, hb2.setOther (a := ⟨r, 0, none⟩) hne.symm _⟩, hk2.setCell (.inl (.inl rfl)) 0 _⟩

end Go.Proofs.YthdkbbkkijdhfaaGreatDoor
