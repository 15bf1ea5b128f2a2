/-
  The walks of own and text.Digits; variables: place, Get. Conditions: lengths that no machine holds.
-/
import Derived.Test.YtfoehfehnmhhmaaGreatDoorW6
import Derived.Lib.QuietBelow
namespace Go.Proofs.YtfoehfehnmhhmaaGreatDoor
open Go.RowKit Go.Shelf Go.Maps

set_option maxRecDepth 100000 in
theorem own_any (w : World) (b : Nat) (vv av v : Value) (x : Wd.Ex) (h : ExAt w b vv av x v) :
    Calls Tryz.prog 58 #[.pointer (some ⟨b, 0, none⟩)] w fun e w' => (∃ v', e = .returned v' ∧ StrsAt w' b v' x.own ∧ ∃ p c, v' = .slice p x.own.length c) ∧ w' = w.drew := by
  have c0 : w.cell? ⟨b, 1, none⟩ = some av := h.blk.cell 1 rfl
  have c1 : w.drew.cell? ⟨b, 1, none⟩ = some av := h.blk.cell 1 rfl
  have ha := h.args
  clear h
  unfold Wd.Ex.own
  generalize x.args = l at *
  obtain ⟨hl, he, hc⟩ := ha
  rcases hc with ⟨rfl, p, c, rfl⟩ | ⟨k, o, c, rfl, hlc, hkb, hcell⟩
  · go_enter Tryz.func58, Tryz.ntmps58
    go_wp2_with fail
    go_region
    all_goals go_wp2_with fail
    all_goals
      go_ret
      exact ⟨⟨_, rfl, ⟨by simp, by simp, .inl ⟨rfl, _, _, rfl⟩⟩, _, _, rfl⟩, rfl⟩
  · cases l with
    | nil =>
      go_enter Tryz.func58, Tryz.ntmps58
      go_wp2_with fail
      go_region
      all_goals go_wp2_with fail
      all_goals
        go_ret
        exact ⟨⟨_, rfl, ⟨by simp, by simp, .inl ⟨rfl, _, _, rfl⟩⟩, _, _, rfl⟩, rfl⟩
    | cons a r =>
      have hcell2 := Lib.hid hcell
      have hll : ((a :: r).length : Int) = (r.length : Int) + 1 := by simp
      have hln : (a :: r).length = r.length + 1 := by simp
      have hmin : min 1 ((r.length : Int) + 1) = 1 := by omega
      have hlc2 : (r.length : Int) + 1 ≤ (c : Int) := by simp at hlc; omega
      go_enter Tryz.func58, Tryz.ntmps58
      go_wp2_with fail
      go_region
      all_goals go_wp2_with fail
      all_goals
        go_ret
        refine ⟨⟨_, rfl, ⟨?_, fun s hs => he s (by simpa using Or.inr hs), ?_⟩, _, _, rfl⟩, rfl⟩
        · simp at hl ⊢; omega
        · by_cases hr : r = []
          · subst hr
            exact .inl ⟨rfl, _, _, rfl⟩
          · have hr2 : r.length ≠ 0 := by simpa using hr
            first
              | exact absurd ‹c = 1› (by simp at hlc; omega)
              | refine .inr ⟨k, o + 1, c - 1, rfl, by simp at hlc; omega, hkb, fun i hi => ?_⟩
                have h7 := hcell (i + 1) (by simp; exact hi)
                rw [show o + 1 + i = o + (i + 1) by omega]
                exact h7

theorem itoa_digits : ∀ c : Nat, c < 256 → Lib.itoa (c : Int) = Wd.digits c := by decide +kernel

/-- What the library's variables hold. -/
structure Glo (w : World) : Prop where
  mx : ∃ m, w.cell? ⟨0, 0, none⟩ = some (.int .i64 m)
  tab : Lib.TabIs Tryz.prog w "internal/strconv.uint64pow10" .u64 Lib.pow10Tab

theorem digits_any (c : Nat) (hc : c < 256) (w : World) (hg : Glo w) :
    Calls Tryz.prog 75 #[.int .i64 c, .int .i64 10] w fun e w' => e = .returned (.string ⟨(Wd.digits c).toArray⟩) ∧ Below w.heap.size w w' := by
  have h3 : Calls Tryz.prog 88 #[.int .i64 c, .int .i64 10] w fun e w' => e = .returned (.string ⟨(Wd.digits c).toArray⟩) ∧ Below w.heap.size w w' := by
    refine (Any.strconv_FormatInt_10 Tryz.laysM173 (c : Int) (by omega) (by omega) w hg.tab).mono ?_
    rintro e w' ⟨rfl, k, os, rfl⟩
    rw [itoa_digits c hc]
    exact ⟨rfl, below_regrown w _ os⟩
  go_enter Tryz.func75, Tryz.ntmps75
  go_wp2_with fail
  refine h3.mono ?_
  rintro e w' ⟨rfl, hb⟩
  go_wp2_with fail
  go_ret
  exact ⟨rfl, hb⟩

/-- Behind '=': a variable's beginning. -/
theorem pre_drop {n v : Wd.Bytes} (h : Wd.pre (n ++ [61]) v = true) : v.length ≥ n.length + 1 := by
  unfold Wd.pre at h
  rw [List.isPrefixOf_iff_prefix] at h
  have := h.length_le
  simp at this; omega

/-- place's own closure. -/
theorem place1_any (k : Nat) (n s : Wd.Bytes) (w : World) (hn : n.length < 1073741824) (hk : w.cell? ⟨k, 0, none⟩ = some (.string ⟨n.toArray⟩)) :
    Calls Tryz.prog 42 #[.string ⟨s.toArray⟩, .pointer (some ⟨k, 0, none⟩)] w fun e w' => e = .returned (.bool (Wd.pre (n ++ [61]) s)) ∧ w' = w := by
  have hp := hasPrefix_any s (n ++ [61]) w
  have he : (⟨n.toArray⟩ : ByteArray) ++ ⟨#[61]⟩ = ⟨(n ++ [61]).toArray⟩ := by apply ByteArray.ext; simp
  generalize n ++ [61] = u at *
  go_enter Tryz.func42, Tryz.ntmps42
  go_wp2_with fail
  refine hp.mono ?_
  rintro e w' ⟨rfl, rfl⟩
  go_wp2_with fail
  go_ret
  exact ⟨rfl, rfl⟩

def placeV (l : List Wd.Bytes) (n : Wd.Bytes) : Int := match Wd.place l n with
  | none => -1
  | some i => (i : Int)

theorem findIdx_drop (p : Wd.Bytes → Bool) (l : List Wd.Bytes) (i : Nat) (hi : i < l.length) (hb : ∀ j, j < i → p (l.getD j []) = false) : l.findIdx? p = if p (l.getD i []) = true then some i else l.findIdx? p := by
  split
  · rename_i h
    rw [List.findIdx?_eq_some_iff_getElem]
    refine ⟨hi, by simpa [List.getD_eq_getElem?_getD, List.getElem?_eq_getElem hi] using h, fun j hj => ?_⟩
    have := hb j hj
    have hj2 : j < l.length := by omega
    simpa [List.getD_eq_getElem?_getD, List.getElem?_eq_getElem hj2] using this
  · rfl

theorem placeV_at {l : List Wd.Bytes} {n : Wd.Bytes} {i : Nat} (hi : i < l.length) (hb : ∀ j, j < i → Wd.pre (n ++ [61]) (l.getD j []) = false) (h : Wd.pre (n ++ [61]) (l.getD i []) = true) : placeV l n = (i : Int) := by
  unfold placeV Wd.place
  rw [findIdx_drop _ l i hi hb, if_pos h]
theorem placeV_none {l : List Wd.Bytes} {n : Wd.Bytes} (hb : ∀ j, j < l.length → Wd.pre (n ++ [61]) (l.getD j []) = false) : placeV l n = -1 := by
  unfold placeV Wd.place
  have : l.findIdx? (fun v => Wd.pre (n ++ [61]) v) = none := by
    rw [List.findIdx?_eq_none_iff]
    intro x hx
    obtain ⟨j, hj, rfl⟩ := List.getElem_of_mem hx
    have := hb j hj
    simpa [List.getD_eq_getElem?_getD, List.getElem?_eq_getElem hj] using this
  rw [this]

set_option maxHeartbeats 1600000 in
set_option maxRecDepth 100000 in
theorem indexFunc_any (w : World) (q : Nat) (B : Nat) (n : Wd.Bytes) (l : List Wd.Bytes) (v : Value) (hv : StrsAt w B v l) (hn : n.length < 1073741824) (hk : w.cell? ⟨q, 0, none⟩ = some (.string ⟨n.toArray⟩)) :
    Calls Tryz.prog 41 #[v, .func (.func 42) #[] #[.pointer (some ⟨q, 0, none⟩)]] w fun e w' => e = .returned (.int .i64 (placeV l n)) ∧ w' = w := by
  obtain ⟨R, hR⟩ : ∃ R, placeV l n = R := ⟨_, rfl⟩
  have HR := Lib.hid hR
  rw [hR]
  have hp := fun s => place1_any q n s w hn hk
  obtain ⟨hl, he, hc⟩ := hv
  rcases hc with ⟨rfl, p, c, rfl⟩ | ⟨k, o, c, rfl, hlc, hkb, hcell⟩
  · have hR1 : R = -1 := by rw [← hR]; rfl
    subst hR1
    clear hR
    go_enter Tryz.func41, Tryz.ntmps41
    go_wp2_with fail
    go_loopw [5, 8] (fun _ x8 wr => x8 = .int .i64 0 ∧ wr = w) (fun _ _ _ => 0)
    case atStart => exact ⟨rfl, rfl⟩
    case round =>
      obtain ⟨rfl, rfl⟩ := hrel
      go_wp2_with fail
      go_ret
      exact ⟨rfl, rfl⟩
  · have HCL := Lib.hid hcell
    clear hcell hR hkb
    go_enter Tryz.func41, Tryz.ntmps41
    go_wp2_with fail
    go_loopw [5, 8] (fun _ x8 wr => ∃ i : Nat, i ≤ l.length ∧ x8 = .int .i64 i ∧ Hid (∀ j, j < i → Wd.pre (n ++ [61]) (l.getD j []) = false) ∧ wr = w) (fun _ x8 _ => l.length - (intOf x8).toNat)
    case atStart => exact ⟨0, Nat.zero_le _, rfl, fun j hj => absurd hj (Nat.not_lt_zero j), rfl⟩
    case round =>
      obtain ⟨i, hi, rfl, HB, rfl⟩ := hrel
      by_cases hlt : i < l.length
      · have hcell := HCL.out i hlt
        have hp1 := hp (l.getD i [])
        have HB2 : Hid (Wd.pre (n ++ [61]) (l.getD i []) = true → R = (i : Int)) := fun h => by rw [← HR.out, placeV_at hlt HB.out h]
        have HB3 : Hid (Wd.pre (n ++ [61]) (l.getD i []) = false → ∀ j, j < i + 1 → Wd.pre (n ++ [61]) (l.getD j []) = false) := fun h j hj => by
          rcases Nat.lt_succ_iff_lt_or_eq.1 hj with h1 | h1
          · exact HB.out j h1
          · rw [h1]; exact h
        generalize Wd.pre (n ++ [61]) (l.getD i []) = B1 at *
        generalize l.getD i [] = s at *
        clear hp
        cases B1 with
        | true =>
          obtain rfl := HB2.out rfl
          go_wp2_with (go_at_call 42; refine hp1.mono ?_; rintro e w2 ⟨rfl, rfl⟩)
          go_ret
          exact ⟨rfl, rfl⟩
        | false =>
          have HB4 := Lib.hid (HB3.out rfl)
          go_wp2_with (go_at_call 42; refine hp1.mono ?_; rintro e w2 ⟨rfl, rfl⟩)
          refine ⟨⟨i + 1, by omega, by go_num, HB4.out, trivial⟩, ?_⟩
          show l.length - ((i : Int) + 1).toNat < l.length - (i : Int).toNat
          omega
      · obtain rfl : i = l.length := by omega
        have hR1 : R = -1 := by rw [← HR.out]; exact placeV_none HB.out
        subst hR1
        go_wp2_with fail
        go_ret
        exact ⟨rfl, rfl⟩

theorem place_any (w : World) (B : Nat) (n : Wd.Bytes) (l : List Wd.Bytes) (v : Value) (hv : StrsAt w B v l) (hn : n.length < 1073741824) :
    Calls Tryz.prog 23 #[v, .string ⟨n.toArray⟩] w fun e w' => e = .returned (.int .i64 (placeV l n)) ∧ Below w.heap.size w w' := by
  have hmf : ∀ (fn : Fn) (first cap : Array Value) (w : World), (Instr.makeFunc fn first cap).run Tryz.prog w = .ok (.func fn first cap) w := fun _ _ _ _ => rfl
  obtain ⟨O, hO⟩ : ∃ O : Obj, O = .cells #[.string ⟨n.toArray⟩] 9 := ⟨_, rfl⟩
  have hb : Below w.heap.size w (w.alloc O) := (Below.refl _ _).alloc (Nat.le_refl _) _
  have hi := indexFunc_any (w.alloc O) w.heap.size B n l v (hv.kept (Kept.of_below hb) (S := fun _ => False) fun _ _ h => h) hn (by rw [hO]; exact (Blk.new w _ _).cell 0 rfl)
  have HB := Lib.hid hb
  clear hb
  subst hO
  go_enter Tryz.func23, Tryz.ntmps23
  go_wp2_with fail
  refine hi.mono ?_
  rintro e w' ⟨rfl, rfl⟩
  go_wp2_with fail
  go_ret
  exact ⟨rfl, HB.out⟩

/-- A variable's value, and whether there is one. -/
def getV (l : List Wd.Bytes) (n : Wd.Bytes) : Wd.Bytes × Bool := match Wd.get l n with
  | some v => (v, true)
  | none => ([], false)
theorem getV_none {l : List Wd.Bytes} {n : Wd.Bytes} (h : Wd.place l n = none) : getV l n = ([], false) := by unfold getV Wd.get; rw [h]; rfl
theorem getV_some {l : List Wd.Bytes} {n : Wd.Bytes} {i : Nat} (h : Wd.place l n = some i) : getV l n = ((l.getD i []).drop (n.length + 1), true) := by unfold getV Wd.get; rw [h]; rfl
theorem place_some {l : List Wd.Bytes} {n : Wd.Bytes} {i : Nat} (h : Wd.place l n = some i) : i < l.length ∧ n.length + 1 ≤ (l.getD i []).length := by
  unfold Wd.place at h
  rw [List.findIdx?_eq_some_iff_getElem] at h
  obtain ⟨hi, hp, -⟩ := h
  refine ⟨hi, ?_⟩
  have := pre_drop hp
  simpa [List.getD_eq_getElem?_getD, List.getElem?_eq_getElem hi] using this

set_option maxRecDepth 100000 in
theorem get_any (w : World) (B : Nat) (n : Wd.Bytes) (l : List Wd.Bytes) (v : Value) (hv : StrsAt w B v l) (hB : B ≤ w.heap.size) (hn : n.length < 1073741824) :
    Calls Tryz.prog 7 #[v, .string ⟨n.toArray⟩] w fun e w' => e = .returned (.tuple #[.string ⟨(getV l n).1.toArray⟩, .bool (getV l n).2]) ∧ Below w.heap.size w w' := by
  have hp := place_any w B n l v hv hn
  cases hx : Wd.place l n with
  | none =>
    have hpv : placeV l n = -1 := by unfold placeV; rw [hx]
    rw [getV_none hx]
    rw [hpv] at hp
    clear hx hpv hv
    go_enter Tryz.func7, Tryz.ntmps7
    go_wp2_with fail
    refine hp.mono ?_
    rintro e w1 ⟨rfl, hb⟩
    have HB := Lib.hid hb
    clear hb hp
    go_wp2_with fail
    go_ret2
    exact ⟨rfl, HB.out⟩
  | some i =>
    have hpv : placeV l n = (i : Int) := by unfold placeV; rw [hx]
    obtain ⟨hil, hln⟩ := place_some hx
    rw [getV_some hx]
    rw [hpv] at hp
    obtain ⟨hl, he, hc⟩ := hv
    rcases hc with ⟨rfl, -⟩ | ⟨k, o, c, rfl, hlc, hkb, hcell⟩
    · simp at hil
    · have hc0 := hcell i hil
      have hes : (l.getD i []).length < 1073741824 := by
        refine he _ ?_
        rw [List.getD_eq_getElem?_getD, List.getElem?_eq_getElem hil]
        exact List.getElem_mem _
      generalize l.getD i [] = s at *
      have hex := extract_from s (n.length + 1)
      generalize hd : s.drop (n.length + 1) = d at *
      clear hx hpv hcell he
      have hkw : k < w.heap.size := by omega
      go_enter Tryz.func7, Tryz.ntmps7
      go_wp2_with fail
      refine hp.mono ?_
      rintro e w1 ⟨rfl, hb⟩
      have hc1 : w1.cell? ⟨k, o + i, none⟩ = some (.string ⟨s.toArray⟩) := by rw [(bcell hb).1 _ _ hkw]; exact hc0
      have HB := Lib.hid hb
      clear hb hp
      go_wp2_with fail
      go_ret2
      exact ⟨rfl, HB.out⟩

end Go.Proofs.YtfoehfehnmhhmaaGreatDoor
