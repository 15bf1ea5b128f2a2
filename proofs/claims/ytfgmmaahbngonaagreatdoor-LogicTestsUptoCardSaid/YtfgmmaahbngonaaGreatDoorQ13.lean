/-
  Texts of this seat put together: L12, L13, GBase.
-/
import Derived.Test.YtfgmmaahbngonaaGreatDoorQ12
import Derived.Shelf.Small.Strs
import Derived.Maps.RangeWalk
import Derived.Test.YtfgmmaahbngonaaGreatDoorProg
import Derived.Test.YtfgmmaahbngonaaGreatDoorQ2
import Derived.Shelf.Strings.SlTrimAscii
import Derived.WalkKit
import Derived.WalkSpells
import Derived.WalkLawsBesides
import Derived.Handy
import Derived.Lib.Hide
import Derived.BigQuiet
import Derived.OneCell
import Derived.BigGuardPart
import Derived.Deep.DeepCutAuto
import Derived.Deep.LoopGhost

/-
  The walks of expr's other signs: first, both, a way to compare, a sign between numbers as it is called. Conditions: the texts are no longer than memory allows; what the library's variables hold.
-/
namespace Go.Proofs.YtfgmmaahbngonaaGreatDoor
open Go.RowKit Go.Shelf Go.Maps

/-- What a sign hands back. -/
def RVal (W : World) (B : Nat) (r : Except Lg.Bad Bts) (v : Value) : Prop := match r with
  | .ok s => v = .tuple #[.string ⟨s.toArray⟩, .nilIface]
  | .error bad => ∃ s e, v = .tuple #[.string s, e] ∧ BadAt W B e bad
def RPost (r : Except Lg.Bad Bts) (W : World) (e : Ending) (W' : World) : Prop := ∃ v, e = .returned v ∧ RVal W' W.heap.size r v ∧ Below W.heap.size W W'

set_option maxRecDepth 100000 in
theorem whole_any (g : Nat) (w : World) : Calls Tryz.prog 103 #[.func (.func g) #[] #[]] w fun e w' => e = .returned (.agg #[.func (.func 146) #[] #[.pointer (some ⟨w.heap.size, 0, none⟩)]]) ∧ w'.cell? ⟨w.heap.size, 0, none⟩ = some (.func (.func g) #[] #[]) ∧ Below w.heap.size w w' := by
  have hmf : ∀ (fn : Fn) (first cap : Array Value) (w : World), (Instr.makeFunc fn first cap).run Tryz.prog w = .ok (.func fn first cap) w := fun _ _ _ _ => rfl
  obtain ⟨w1, hw1⟩ : ∃ w1, (w.alloc (.cells #[.func (.func g) #[] #[]] 213)).alloc (.cells #[.func (.func 146) #[] #[.pointer (some ⟨w.heap.size, 0, none⟩)]] 211) = w1 := ⟨_, rfl⟩
  have hb1 : Below w.heap.size w w1 := by rw [← hw1]; exact ((Below.refl _ _).alloc (Nat.le_refl _) _).alloc (by simp) _
  have k0 : w1.cell? ⟨w.heap.size, 0, none⟩ = some (.func (.func g) #[] #[]) := by rw [← hw1]; exact ((Blk.new _ _ _).alloc _).cell 0 rfl
  have k1 : Blk w1 (w.heap.size + 1) #[.func (.func 146) #[] #[.pointer (some ⟨w.heap.size, 0, none⟩)]] 211 := by
    rw [← hw1]
    have := Blk.new (w.alloc (.cells #[.func (.func g) #[] #[]] 213)) #[.func (.func 146) #[] #[.pointer (some ⟨w.heap.size, 0, none⟩)]] 211
    simpa only [World.size_alloc] using this
  have r0 := k1.cell 0 (v := .func (.func 146) #[] #[.pointer (some ⟨w.heap.size, 0, none⟩)]) rfl
  have HB := Lib.hid hb1
  have HR := Lib.hid r0
  have HK := Lib.hid k0
  have HW := Lib.hid hw1
  clear hb1 k1 hw1 r0 k0
  go_enter Tryz.func103, Tryz.ntmps103
  go_wp2_with fail
  rw [HW.out]
  have r0 := HR.out
  refine bodyPost_ret (v := .agg #[.func (.func 146) #[] #[.pointer (some ⟨w.heap.size, 0, none⟩)]]) ?_ rfl ⟨rfl, HK.out, HB.out⟩
  simp [results, Tryz.results103, go_sem, r0]

theorem num_bounds {s : Bts} {n : Int} (h : Lg.num s = some n) : -9223372036854775808 ≤ n ∧ n ≤ 9223372036854775807 := by
  unfold Lg.num at h
  split at h
  · rename_i hc
    injection h with h
    subst h
    simp at hc
    omega
  · cases h
theorem nums_bounds {a b : Bts} {n m : Int} (h : Lg.nums a b = .ok (n, m)) : -9223372036854775808 ≤ n ∧ n ≤ 9223372036854775807 ∧ -9223372036854775808 ≤ m ∧ m ≤ 9223372036854775807 := by
  unfold Lg.nums at h
  cases hx : Lg.num a with
  | none => rw [hx] at h; cases h
  | some x =>
    rw [hx] at h
    cases hy : Lg.num b with
    | none => rw [hy] at h; cases h
    | some y =>
      rw [hy] at h
      injection h with h
      injection h with h1 h2
      subst h1 h2
      have := num_bounds hx
      have := num_bounds hy
      omega

set_option maxRecDepth 100000 in
set_option maxHeartbeats 1600000 in
theorem wholeFn_any (g : Nat) (do_ : Int → Int → Option (Option Int)) (hd : DoC g do_) (a b : Bts) (r : Except Lg.Bad Bts) (hr : Lg.whole do_ a b = some r) (ha : a.length ≤ 140737488351232) (hb : b.length ≤ 140737488351232) (c : Nat) (W : World) (hg : Glo W) (hc : W.cell? ⟨c, 0, none⟩ = some (.func (.func g) #[] #[])) :
    Calls Tryz.prog 146 #[.string ⟨a.toArray⟩, .string ⟨b.toArray⟩, .pointer (some ⟨c, 0, none⟩)] W fun e W' => RPost r W e W' := by
  have hn := lnumbers_any a b ha hb W hg
  unfold Lg.whole at hr
  have HG := Lib.hid hg
  clear hg ha hb
  cases hx : Lg.nums a b with
  | error bad =>
    rw [hx] at hn hr
    injection hr with hr
    subst hr
    clear hx
    go_enter Tryz.func146, Tryz.ntmps146
    go_wp2_with fail
    refine hn.mono ?_
    rintro e W1 ⟨v, rfl, ⟨ev, rfl, hbad⟩, hb1⟩
    obtain ⟨q, rfl, hq, hk⟩ := hbad
    have HB := Lib.hid hb1
    have HK := Lib.hid hk
    clear hn hb1 hk
    go_wp2_with fail
    go_ret2
    exact ⟨_, rfl, ⟨_, _, rfl, q, rfl, hq, HK.out⟩, HB.out⟩
  | ok nm =>
    obtain ⟨n, m⟩ := nm
    have hbd := nums_bounds hx
    rw [hx] at hn hr
    simp only at hr
    obtain ⟨hent, hdo⟩ := hd
    cases hdx : do_ n m with
    | none => rw [hdx] at hr; cases hr
    | some x =>
      have hcall := fun W1 => hdo n m x hdx hbd.1 hbd.2.1 hbd.2.2.1 hbd.2.2.2 W1
      rw [hdx] at hr
      clear hx hdx hdo hbd
      cases x with
      | none =>
        injection hr with hr
        subst hr
        have HC := Lib.hid hcall
        clear hcall
        go_enter Tryz.func146, Tryz.ntmps146
        go_wp2_with fail
        refine hn.mono ?_
        rintro e W1 ⟨v, rfl, rfl, hb1⟩
        have c1 := (hb1.cell (p := ⟨c, 0, none⟩) (World.block_lt_of_cell? _ _ hc)).trans hc
        have HB := Lib.hid hb1
        clear hn hb1
        go_wp2_with fail
        refine (HC.out _).mono ?_
        rintro e W2 ⟨⟨v, rfl⟩, hb2⟩
        have HB2 := Lib.hid (HB.out.trans (hb2.mono HB.out.size))
        clear hb2
        go_wp2_with fail
        go_ret2
        exact ⟨_, rfl, ⟨_, _, rfl, _, rfl, HB2.out.size, Blk.new _ _ _⟩, HB2.out.alloc HB2.out.size _⟩
      | some v =>
        injection hr with hr
        subst hr
        have HC := Lib.hid hcall
        clear hcall
        go_enter Tryz.func146, Tryz.ntmps146
        go_wp2_with fail
        refine hn.mono ?_
        rintro e W1 ⟨v, rfl, rfl, hb1⟩
        have c1 := (hb1.cell (p := ⟨c, 0, none⟩) (World.block_lt_of_cell? _ _ hc)).trans hc
        have HB := Lib.hid hb1
        clear hn hb1
        go_wp2_with fail
        refine (HC.out _).mono ?_
        rintro e W2 ⟨⟨rfl, hv1, hv2⟩, hb2⟩
        have HB2 := Lib.hid (HB.out.trans (hb2.mono HB.out.size))
        have hfmt : Calls Tryz.prog 11 #[.int .i64 v, .int .i64 10] W2 fun e w' => e = .returned (.string ⟨(Lib.itoa v).toArray⟩) ∧ Below W2.heap.size W2 w' := by
          refine (Any.strconv_FormatInt_10 Tryz.laysM173 v hv1 hv2 W2 (HG.out.below HB2.out).tab).mono ?_
          rintro e w' ⟨rfl, k, os, rfl⟩
          exact ⟨rfl, below_regrown W2 _ os⟩
        clear hb2 hv1 hv2
        go_wp2_with fail
        refine hfmt.mono ?_
        rintro e W3 ⟨rfl, hb3⟩
        have HB3 := Lib.hid (HB2.out.trans (hb3.mono HB2.out.size))
        clear hb3 hfmt
        go_wp2_with fail
        go_ret2
        exact ⟨_, rfl, rfl, HB3.out⟩

set_option maxRecDepth 100000 in
theorem first_any (a b : Bts) (ha : a.length ≤ 140737488351232) (W : World) (hg : Glo W) :
    Calls Tryz.prog 100 #[.string ⟨a.toArray⟩, .string ⟨b.toArray⟩] W fun e W' => RPost (.ok (if !Lg.null a then a else if !b.isEmpty then b else [48])) W e W' := by
  have hn := null_any a ha W hg
  clear hg ha
  cases hx : Lg.null a with
  | false =>
    rw [hx] at hn
    clear hx
    go_enter Tryz.func100, Tryz.ntmps100
    go_wp2_with fail
    refine hn.mono ?_
    rintro e W1 ⟨rfl, hb⟩
    go_wp2_with fail
    go_ret2
    exact ⟨_, rfl, rfl, hb⟩
  | true =>
    rw [hx] at hn
    clear hx
    cases b with
    | nil =>
      go_enter Tryz.func100, Tryz.ntmps100
      go_wp2_with fail
      refine hn.mono ?_
      rintro e W1 ⟨rfl, hb⟩
      go_wp2_with fail
      go_ret2
      exact ⟨_, rfl, rfl, hb⟩
    | cons c r =>
      have e1 : ((c :: r : Bts) == []) = false := rfl
      have e2 : ¬ (c :: r : Bts) = [] := by simp
      generalize hq : (c :: r : Bts) = q at *
      have e3 : (if (!true) = true then a else if (!q.isEmpty) = true then q else [48]) = q := by rw [← hq]; rfl
      rw [e3]
      clear hq e3
      go_enter Tryz.func100, Tryz.ntmps100
      go_wp2_with fail
      refine hn.mono ?_
      rintro e W1 ⟨rfl, hb⟩
      go_wp2_with fail
      go_ret2
      exact ⟨_, rfl, rfl, hb⟩

set_option maxRecDepth 100000 in
theorem both_any (a b : Bts) (ha : a.length ≤ 140737488351232) (hb : b.length ≤ 140737488351232) (W : World) (hg : Glo W) :
    Calls Tryz.prog 101 #[.string ⟨a.toArray⟩, .string ⟨b.toArray⟩] W fun e W' => RPost (.ok (if Lg.null a || Lg.null b then [48] else a)) W e W' := by
  have hn := null_any a ha W hg
  have hn2 : Hid (∀ W1, Below W.heap.size W W1 → Calls Tryz.prog 64 #[.string ⟨b.toArray⟩] W1 fun e w' => e = .returned (.bool (Lg.null b)) ∧ Below W1.heap.size W1 w') := Lib.hid (fun W1 h => null_any b hb W1 (hg.below h))
  clear hg ha hb
  cases hx : Lg.null a with
  | true =>
    rw [hx] at hn
    clear hx hn2
    go_enter Tryz.func101, Tryz.ntmps101
    go_wp2_with fail
    refine hn.mono ?_
    rintro e W1 ⟨rfl, hb⟩
    go_wp2_with fail
    go_ret2
    exact ⟨_, rfl, rfl, hb⟩
  | false =>
    rw [hx] at hn
    cases hy : Lg.null b with
    | true =>
      rw [hy] at hn2
      clear hx hy
      go_enter Tryz.func101, Tryz.ntmps101
      go_wp2_with fail
      refine hn.mono ?_
      rintro e W1 ⟨rfl, hb⟩
      have HB := Lib.hid hb
      clear hb
      go_wp2_with fail
      refine (hn2.out _ HB.out).mono ?_
      rintro e W2 ⟨rfl, hb2⟩
      have HB2 := Lib.hid (HB.out.trans (hb2.mono HB.out.size))
      clear hb2
      go_wp2_with fail
      go_ret2
      exact ⟨_, rfl, rfl, HB2.out⟩
    | false =>
      rw [hy] at hn2
      clear hx hy
      go_enter Tryz.func101, Tryz.ntmps101
      go_wp2_with fail
      refine hn.mono ?_
      rintro e W1 ⟨rfl, hb⟩
      have HB := Lib.hid hb
      clear hb
      go_wp2_with fail
      refine (hn2.out _ HB.out).mono ?_
      rintro e W2 ⟨rfl, hb2⟩
      have HB2 := Lib.hid (HB.out.trans (hb2.mono HB.out.size))
      clear hb2
      go_wp2_with fail
      go_ret2
      exact ⟨_, rfl, rfl, HB2.out⟩

/-- How two texts stand: by numbers, if both are. -/
def cmpOf (a b : Bts) : Int := match Lg.nums a b with
  | .error _ => Lg.cmpB a b
  | .ok (n, m) => Lg.sgn n m
set_option maxRecDepth 100000 in
set_option maxHeartbeats 1600000 in
theorem cmpFn_any (k : Nat) (hk : k < 6) (a b : Bts) (ha : a.length ≤ 140737488351232) (hb : b.length ≤ 140737488351232) (c : Nat) (W : World) (hg : Glo W) (hc : W.cell? ⟨c, 0, none⟩ = some (.func (.func (ordFn k)) #[] #[])) :
    Calls Tryz.prog 109 #[.string ⟨a.toArray⟩, .string ⟨b.toArray⟩, .pointer (some ⟨c, 0, none⟩)] W fun e W' => RPost (.ok (if Lg.cmpK k (cmpOf a b) then [49] else [48])) W e W' := by
  have hcmp : Calls Tryz.prog 110 #[.string ⟨a.toArray⟩, .string ⟨b.toArray⟩] W fun e w' => e = .returned (.int .i64 (Lg.cmpB a b)) ∧ w' = W := Any.strings_Compare Tryz.lays106 ⟨a.toArray⟩ ⟨b.toArray⟩ W
  have hn := lnumbers_any a b ha hb W hg
  obtain ⟨hent, his⟩ := isCmp k hk
  have HIS := Lib.hid his
  unfold cmpOf
  generalize Lg.cmpB a b = CB at *
  generalize ordFn k = g at *
  clear hg ha hb hk his
  cases hx : Lg.nums a b with
  | error bad =>
    rw [hx] at hn
    simp only
    clear hx
    cases hq : Lg.cmpK k CB with
    | true =>
      go_enter Tryz.func109, Tryz.ntmps109
      go_wp2_with fail
      refine hcmp.mono ?_
      rintro e W0 ⟨rfl, rfl⟩
      go_wp2_with fail
      refine hn.mono ?_
      rintro e W1 ⟨v, rfl, ⟨ev, rfl, ⟨q, rfl, -, -⟩⟩, hb1⟩
      have c1 := (hb1.cell (p := ⟨c, 0, none⟩) (World.block_lt_of_cell? _ _ hc)).trans hc
      have HB := Lib.hid hb1
      clear hn hb1 hc hcmp
      go_wp2_with fail
      refine (HIS.out _ _).mono ?_
      rintro e W2 ⟨rfl, rfl⟩
      rw [hq]
      go_wp2_with fail
      go_ret2
      exact ⟨_, rfl, rfl, HB.out⟩
    | false =>
      go_enter Tryz.func109, Tryz.ntmps109
      go_wp2_with fail
      refine hcmp.mono ?_
      rintro e W0 ⟨rfl, rfl⟩
      go_wp2_with fail
      refine hn.mono ?_
      rintro e W1 ⟨v, rfl, ⟨ev, rfl, ⟨q, rfl, -, -⟩⟩, hb1⟩
      have c1 := (hb1.cell (p := ⟨c, 0, none⟩) (World.block_lt_of_cell? _ _ hc)).trans hc
      have HB := Lib.hid hb1
      clear hn hb1 hc hcmp
      go_wp2_with fail
      refine (HIS.out _ _).mono ?_
      rintro e W2 ⟨rfl, rfl⟩
      rw [hq]
      go_wp2_with fail
      go_ret2
      exact ⟨_, rfl, rfl, HB.out⟩
  | ok nm =>
    obtain ⟨n, m⟩ := nm
    rw [hx] at hn
    simp only
    clear hx
    have hs := sign_any n m
    cases hq : Lg.cmpK k (Lg.sgn n m) with
    | true =>
      go_enter Tryz.func109, Tryz.ntmps109
      go_wp2_with fail
      refine hcmp.mono ?_
      rintro e W0 ⟨rfl, rfl⟩
      go_wp2_with fail
      refine hn.mono ?_
      rintro e W1 ⟨v, rfl, rfl, hb1⟩
      have c1 := (hb1.cell (p := ⟨c, 0, none⟩) (World.block_lt_of_cell? _ _ hc)).trans hc
      have HB := Lib.hid hb1
      clear hn hb1 hc hcmp
      go_wp2_with fail
      refine (hs _).mono ?_
      rintro e W2 ⟨rfl, rfl⟩
      go_wp2_with fail
      refine (HIS.out _ _).mono ?_
      rintro e W2 ⟨rfl, rfl⟩
      rw [hq]
      go_wp2_with fail
      go_ret2
      exact ⟨_, rfl, rfl, HB.out⟩
    | false =>
      go_enter Tryz.func109, Tryz.ntmps109
      go_wp2_with fail
      refine hcmp.mono ?_
      rintro e W0 ⟨rfl, rfl⟩
      go_wp2_with fail
      refine hn.mono ?_
      rintro e W1 ⟨v, rfl, rfl, hb1⟩
      have c1 := (hb1.cell (p := ⟨c, 0, none⟩) (World.block_lt_of_cell? _ _ hc)).trans hc
      have HB := Lib.hid hb1
      clear hn hb1 hc hcmp
      go_wp2_with fail
      refine (hs _).mono ?_
      rintro e W2 ⟨rfl, rfl⟩
      go_wp2_with fail
      refine (HIS.out _ _).mono ?_
      rintro e W2 ⟨rfl, rfl⟩
      rw [hq]
      go_wp2_with fail
      go_ret2
      exact ⟨_, rfl, rfl, HB.out⟩

end Go.Proofs.YtfgmmaahbngonaaGreatDoor

/-
  The walk of expr's operators: the map of signs. No condition.
-/
namespace Go.Proofs.YtfgmmaahbngonaaGreatDoor
open Go.RowKit Go.Shelf Go.Maps

/-- The signs: |, &, :, +, -, *, /, %, and the ways to compare. -/
def opNames : List Bts := [[124], [38], [58], [43], [45], [42], [47], [37], [61], [33, 61], [62], [62, 61], [60], [60, 61]]
theorem place_get : ∀ {l : List Bts} {s : Bts} {k : Nat}, Lg.place l s = some k → l[k]? = some s
  | [], _, _, h => by cases h
  | x :: r, s, k, h => by
    rw [Lg.place] at h
    split at h
    · rename_i hx
      injection h with h
      subst h
      simp [hx]
    · cases hp : Lg.place r s with
      | none => rw [hp] at h; cases h
      | some j =>
        rw [hp] at h
        injection h with h
        subst h
        simpa using place_get hp
/-- What lies in the map at a sign: the function, or the closure and what it holds. -/
def opBox : Nat → Option (Nat × Nat)
  | 3 => some (146, 104)
  | 4 => some (146, 105)
  | 5 => some (146, 106)
  | 6 => some (146, 107)
  | 7 => some (146, 108)
  | k + 8 => some (109, ordFn k)
  | _ => none
def opPlain : Nat → Nat
  | 0 => 100
  | 1 => 101
  | _ => 102
def OpEl (W : World) (k : Nat) (d : DataW Unit) : Prop := match opBox k with
  | none => d = .lit (.int .i64 (opPlain k))
  | some (g, h) => ∃ c : Nat, d = .agg [.lit (.int .i64 g), .lit (.int .i64 c)] ∧ W.cell? ⟨c, 0, none⟩ = some (.func (.func h) #[] #[])
theorem OpEl.keep {W W' : World} {k : Nat} {d : DataW Unit} (h : OpEl W k d) (hc : ∀ c v, W.cell? ⟨c, 0, none⟩ = some v → W'.cell? ⟨c, 0, none⟩ = some v) : OpEl W' k d := by
  unfold OpEl at *
  split at h
  · exact h
  · obtain ⟨c, h1, h2⟩ := h
    exact ⟨c, h1, hc c _ h2⟩
theorem grown_cell {W W' : World} {b : Nat} (hb : ∃ es cl, W.heap[b]? = some (.map es cl)) (h : W.grownBy W' (some b)) (c : Nat) (v : Value) (hc : W.cell? ⟨c, 0, none⟩ = some v) : W'.cell? ⟨c, 0, none⟩ = some v := by
  have hlt := World.block_lt_of_cell? _ _ hc
  have hne : c ≠ b := by
    rintro rfl
    obtain ⟨es, cl, hm⟩ := hb
    unfold World.cell? at hc
    simp [hm] at hc
  have := h.block c hlt (by simp; exact hne)
  unfold World.cell? at hc ⊢
  simp only [this]
  exact hc
theorem owns_map {P : Program} {k : TypeId} {R : Value → Option (DataW Unit × List MemPlace)} {w : World} {b n : Nat} {D : DataW Unit} (h : w.ownsMap P k R b n D) : ∃ es cl, w.heap[b]? = some (.map es cl) := by
  obtain ⟨es, cl, hb, -⟩ := h
  exact ⟨es, cl, hb⟩

/-- The map of signs, while it is laid. -/
def OpsIn (w : World) (b : Nat) (done : Nat → Bool) (n : Nat) (W : World) : Prop := ∃ D : DataW Unit, W.ownsMap Tryz.prog 9 fnElem b n D ∧ Below w.heap.size w W ∧ ∀ (s : Bts) (k : Nat), Lg.place opNames s = some k → done k = true → ∀ z, OpEl W k (D.atKey (.string s) z)
/-- .. and when it is there. -/
def OpsAt (W : World) (m : Nat) : Prop := ∃ n D, W.ownsMap Tryz.prog 9 fnElem m n D ∧ ∀ (s : Bts) (k : Nat), Lg.place opNames s = some k → ∀ z, OpEl W k (D.atKey (.string s) z)
theorem OpsAt.below {W W' : World} {m : Nat} (h : OpsAt W m) (hb : Below W.heap.size W W') : OpsAt W' m := by
  obtain ⟨n, D, ho, ha⟩ := h
  exact ⟨n, D, map_as ho (hb.block _ ho.lt), fun s k hk z => (ha s k hk z).keep fun c v hc => (hb.cell (p := ⟨c, 0, none⟩) (World.block_lt_of_cell? _ _ hc)).trans hc⟩
theorem OpsIn.below {w W W' : World} {b n : Nat} {done : Nat → Bool} (h : OpsIn w b done n W) (hb : Below W.heap.size W W') : OpsIn w b done n W' := by
  obtain ⟨D, ho, hw, ha⟩ := h
  exact ⟨D, map_as ho (hb.block _ ho.lt), hw.trans (hb.mono hw.size), fun s k hk hd z => (ha s k hk hd z).keep fun c v hc => (hb.cell (p := ⟨c, 0, none⟩) (World.block_lt_of_cell? _ _ hc)).trans hc⟩
theorem OpsIn.other {w W W' : World} {b n r : Nat} {done : Nat → Bool} (h : OpsIn w b done n W) (hg : W.grownBy W' (some r)) (hr : w.heap.size ≤ r) (hrb : r ≠ b) (hri : ∃ m s e c, W.heap[r]? = some (.mapIter m s e c)) : OpsIn w b done n W' := by
  obtain ⟨D, ho, hw, ha⟩ := h
  refine ⟨D, map_as ho (hg.block _ ho.lt (by simp; exact fun e => hrb e.symm)), hw.trans (grown_below hg hr hw.size), fun s k hk hd z => (ha s k hk hd z).keep fun c v hc => ?_⟩
  have hne : c ≠ r := by
    rintro rfl
    obtain ⟨m, s', e, cc, hm⟩ := hri
    unfold World.cell? at hc
    simp [hm] at hc
  have := hg.block c (World.block_lt_of_cell? _ _ hc) (by simp; exact hne)
  unfold World.cell? at hc ⊢
  simp only [this]
  exact hc
theorem OpsIn.put {w W : World} {b n k : Nat} {done : Nat → Bool} (h : OpsIn w b done n W) (hb : w.heap.size ≤ b) (hn : n < 1000) (s : Bts) (hk : Lg.place opNames s = some k) (hs : s.length ≤ maxLen) (v : Value) (d : DataW Unit) (hv : fnElem v = some (d, [])) (hd : OpEl W k d) :
    ∃ W', (Instr.mapUpdate 169 (.map (some b)) (.string ⟨s.toArray⟩) v).run Tryz.prog W = .ok () W' ∧ OpsIn w b (fun j => if j = k then true else done j) (n + 1) W' ∧ W.grownBy W' (some b) := by
  obtain ⟨D, ho, hw, ha⟩ := h
  obtain ⟨W', hrun, h1, h2⟩ := World.ownsMap.update ho kStr (t := 169) Tryz.underlying169 (by unfold maxLen; omega) (key := .string ⟨s.toArray⟩) (val := v) (kl := .string s) (Go.WideMaps.keyOf_string_mk Tryz.underlying9 (by simpa [ByteArray.size] using hs)) hv
  have hkeep := grown_cell (owns_map ho) h2
  refine ⟨W', hrun, ⟨_, h1, hw.trans (grown_below h2 hb hw.size), fun t j hj hdn z => ?_⟩, h2⟩
  by_cases ht : t = s
  · subst ht
    rw [hk] at hj
    injection hj with hj
    subst hj
    rw [atKey_put_same ho.isMap (keyLit_str _)]
    exact hd.keep hkeep
  · have hjk : j ≠ k := by
      rintro rfl
      have h3 := place_get hj
      rw [place_get hk] at h3
      injection h3 with h3
      exact ht h3.symm
    simp only [if_neg hjk] at hdn
    rw [atKey_put_other (fun e => ht (by injection e))]
    exact (ha t j hj hdn z).keep hkeep

def doneTo (m : Nat) : Nat → Bool := fun j => decide (j < m)
theorem doneTo_succ (m : Nat) : (fun j => if j = m then true else doneTo m j) = doneTo (m + 1) := by
  funext j
  unfold doneTo
  by_cases h : j = m
  · subst h; simp
  · rw [if_neg h]
    congr 1
    apply propext
    omega
/-- Which ways to compare are there already. -/
def doneX (left : Lit → Bool) : Nat → Bool := fun j => decide (j < 8) || !left (.string (opNames.getD j []))
theorem place_x {s : Bts} {k : Nat} (h : Lg.place Lg.xnames s = some k) : Lg.place opNames s = some (k + 8) ∧ opNames.getD (k + 8) [] = s := by
  have h1 := place_get h
  have h2 := place_lt h
  have h2 : k < 6 := h2
  match k, h2 with
  | 0, _ => injection h1 with h1; subst h1; exact ⟨rfl, rfl⟩
  | 1, _ => injection h1 with h1; subst h1; exact ⟨rfl, rfl⟩
  | 2, _ => injection h1 with h1; subst h1; exact ⟨rfl, rfl⟩
  | 3, _ => injection h1 with h1; subst h1; exact ⟨rfl, rfl⟩
  | 4, _ => injection h1 with h1; subst h1; exact ⟨rfl, rfl⟩
  | 5, _ => injection h1 with h1; subst h1; exact ⟨rfl, rfl⟩

theorem strKey_kl {x : Bts} {kl : Lit} (h : keyOf Tryz.prog 9 (.string ⟨x.toArray⟩) = some kl) : kl = .string x := by
  simp [keyOf, Tryz.underlying9, mapKey] at h
  obtain ⟨-, h⟩ := h
  exact h.symm
theorem same_str {s x : Bts} (h : s ≠ x) : (Lit.string s).sameKey (.string x) = false := by
  simp [Lit.sameKey, h]
theorem OpsIn.mono {w W : World} {b n : Nat} {done done' : Nat → Bool} (h : OpsIn w b done n W) (hd : ∀ s j, Lg.place opNames s = some j → done' j = true → done j = true) : OpsIn w b done' n W := by
  obtain ⟨D, ho, hw, ha⟩ := h
  exact ⟨D, ho, hw, fun s k hk hk2 => ha s k hk (hd s k hk hk2)⟩
theorem x_name {s : Bts} {j : Nat} (h : Lg.place opNames s = some j) : opNames.getD j [] = s := by
  rw [List.getD_eq_getElem?_getD, place_get h]; rfl
theorem x_place {s : Bts} {j : Nat} (h : Lg.place opNames s = some j) (h8 : 8 ≤ j) : ∃ k, Lg.place Lg.xnames s = some k := by
  have h1 := place_get h
  have h2 : j < 14 := place_lt h
  rcases (show j = 8 ∨ j = 9 ∨ j = 10 ∨ j = 11 ∨ j = 12 ∨ j = 13 by omega) with rfl | rfl | rfl | rfl | rfl | rfl
  all_goals (injection h1 with h1; subst h1; exact ⟨_, rfl⟩)
theorem strKey_inv (key : Value) (kl : Lit) (h : keyOf Tryz.prog 9 key = some kl) : ∃ x : Bts, key = .string ⟨x.toArray⟩ := by
  cases key <;> simp [keyOf, Tryz.underlying9, mapKey] at h
  rename_i s
  exact ⟨s.data.toList, by cases s; simp⟩

set_option maxRecDepth 100000 in
set_option maxHeartbeats 8000000 in
theorem operators_any (w : World) : Calls Tryz.prog 61 #[] w fun e w' => ∃ m, e = .returned (.map (some m)) ∧ w.heap.size ≤ m ∧ OpsAt w' m ∧ Below w.heap.size w w' := by
  have hmm := @run_makeMap Tryz.prog
  have hmf : ∀ (fn : Fn) (first cap : Array Value) (w : World), (Instr.makeFunc fn first cap).run Tryz.prog w = .ok (.func fn first cap) w := fun _ _ _ _ => rfl
  have o0 : OpsIn w w.heap.size (doneTo 0) 0 (w.alloc (.map #[] 0)) := ⟨_, World.ownsMap_made w Tryz.prog 9 fnElem, (Below.refl _ _).alloc (Nat.le_refl _) _, fun s k _ hd => absurd hd (by unfold doneTo; simp)⟩
  obtain ⟨w1, e1, o1, -⟩ := o0.put (Nat.le_refl _) (by decide) [124] (k := 0) rfl (by decide) _ _ (fnElem_fn 100) rfl
  rw [doneTo_succ] at o1
  obtain ⟨w2, e2, o2, -⟩ := o1.put (Nat.le_refl _) (by decide) [38] (k := 1) rfl (by decide) _ _ (fnElem_fn 101) rfl
  rw [doneTo_succ] at o2
  obtain ⟨w3, e3, o3, -⟩ := o2.put (Nat.le_refl _) (by decide) [58] (k := 2) rfl (by decide) _ _ (fnElem_fn 102) rfl
  rw [doneTo_succ] at o3
  have O3 := Lib.hid o3
  unfold fnV at e1 e2 e3
  clear o0 o1 o2 o3
  go_enter Tryz.func61, Tryz.ntmps61
  go_wp2_with fail
  refine (whole_any _ _).mono ?_
  rintro e v4 ⟨rfl, hc, hb⟩
  obtain ⟨w4, e4, o4, -⟩ := (O3.out.below hb).put (Nat.le_refl _) (by decide) [43] (k := 3) rfl (by decide) _ _ (fnElem_box 146 _) ⟨_, rfl, hc⟩
  rw [doneTo_succ] at o4
  have O4 := Lib.hid o4
  unfold fnB at e4
  clear o4 hc hb
  go_wp2_with fail
  refine (whole_any _ _).mono ?_
  rintro e v5 ⟨rfl, hc, hb⟩
  obtain ⟨w5, e5, o5, -⟩ := (O4.out.below hb).put (Nat.le_refl _) (by decide) [45] (k := 4) rfl (by decide) _ _ (fnElem_box 146 _) ⟨_, rfl, hc⟩
  rw [doneTo_succ] at o5
  have O5 := Lib.hid o5
  unfold fnB at e5
  clear o5 hc hb
  go_wp2_with fail
  refine (whole_any _ _).mono ?_
  rintro e v6 ⟨rfl, hc, hb⟩
  obtain ⟨w6, e6, o6, -⟩ := (O5.out.below hb).put (Nat.le_refl _) (by decide) [42] (k := 5) rfl (by decide) _ _ (fnElem_box 146 _) ⟨_, rfl, hc⟩
  rw [doneTo_succ] at o6
  have O6 := Lib.hid o6
  unfold fnB at e6
  clear o6 hc hb
  go_wp2_with fail
  refine (whole_any _ _).mono ?_
  rintro e v7 ⟨rfl, hc, hb⟩
  obtain ⟨w7, e7, o7, -⟩ := (O6.out.below hb).put (Nat.le_refl _) (by decide) [47] (k := 6) rfl (by decide) _ _ (fnElem_box 146 _) ⟨_, rfl, hc⟩
  rw [doneTo_succ] at o7
  have O7 := Lib.hid o7
  unfold fnB at e7
  clear o7 hc hb
  go_wp2_with fail
  refine (whole_any _ _).mono ?_
  rintro e v8 ⟨rfl, hc, hb⟩
  obtain ⟨w8, e8, o8, -⟩ := (O7.out.below hb).put (Nat.le_refl _) (by decide) [37] (k := 7) rfl (by decide) _ _ (fnElem_box 146 _) ⟨_, rfl, hc⟩
  rw [doneTo_succ] at o8
  have O8 := Lib.hid o8
  unfold fnB at e8
  clear o8 hc hb O3 O4 O5 O6 O7
  go_wp2_with fail
  refine (orders_any [61] [33, 61] [62] [62, 61] [60] [60, 61] (by decide) (by decide) (by decide) (by decide) (by decide) (by decide) (by decide) _).mono ?_
  rintro e w9 ⟨mo, rfl, hmo, ⟨DX, hown, hat⟩, hb9⟩
  have hw9 : w.heap.size ≤ w8.heap.size := by obtain ⟨D, -, hw, -⟩ := O8.out; exact hw.size
  have hmlt : w.heap.size < w8.heap.size := by obtain ⟨D, ho, -, -⟩ := O8.out; exact ho.lt
  have O9 := Lib.hid (O8.out.below hb9)
  have HMO := Lib.hid (show w.heap.size ≠ mo by omega)
  have HW9 := Lib.hid (Nat.le_trans hw9 hb9.size)
  have HAT := Lib.hid hat
  clear hb9 hmo O8 hw9 hmlt hat e1 e2 e3 e4 e5 e6 e7 e8
  go_wp2_with (first
    | (at_range; refine wpList_range_own _ rfl _ 155 rfl 9 200 kStr Tryz.underlying155 fnElem mo 6 DX rfl hown ?_; intro wA hrgA hgA hsA)
    | go_in)
  go_frame
  have hA : Below w9.heap.size w9 wA := ⟨hgA.os, hgA.tape, hgA.output, hgA.size, fun j hj => hgA.block j hj (by simp)⟩
  have OA := Lib.hid (O9.out.below hA)
  have HLW : Hid (w.heap.size ≤ wA.heap.size) := Lib.hid (Nat.le_trans HW9.out hA.size)
  go_loopg [2] (Maps.size DX) (fun g _x2 wr => ∃ (left : Lit → Bool) (n : Nat), wr.ranges Tryz.prog 9 fnElem mo w9.heap.size 6 DX left g ∧ n + g ≤ 900 ∧ Hid (OpsIn w w.heap.size (doneX left) n wr))
  case atStart =>
    have hsz : Maps.size DX ≤ 6 := by
      obtain ⟨es, clock, since, seen, c0, -, -, hs, -, -, -, hc, -⟩ := hrgA
      rw [← hc]
      exact Nat.le_trans Array.size_filter_le hs
    refine ⟨Maps.has DX, 8, hrgA, by omega, Lib.hid (OA.out.mono fun s j hj hd => ?_)⟩
    unfold doneX at hd
    unfold doneTo
    by_cases h8 : j < 8
    · simp only [decide_eq_true_eq]; omega
    · exfalso
      rw [decide_eq_false h8, Bool.false_or, Bool.not_eq_true', x_name hj] at hd
      obtain ⟨k, hk⟩ := x_place hj (by omega)
      have := has_true_of_atKey (D := DX) (k := .string s) (y := .lit (.int .i64 (ordFn k))) (fun z => by rw [HAT.out s z, show Lg.place [[61], [33, 61], [62], [62, 61], [60], [60, 61]] s = some k from hk])
      rw [this] at hd
      cases hd
  case round =>
    obtain ⟨left, n, hrg, hng, HI⟩ := hrel
    go_wp2_with (first
      | (at_next; refine wpList_next_ranges _ rfl _ rfl 9 kStr fnElem (fun s : Bts => .string ⟨s.toArray⟩) (fun v : Value => v) strKey_inv (fun v y _ => ⟨v, rfl⟩) mo w9.heap.size 6 _ _ _ rfl hrg ?_ ?_)
      | go_in)
    · intro hc0 hl0
      obtain ⟨D, ho, hw, ha⟩ := HI.out
      have HF : Hid (OpsAt wr w.heap.size) := Lib.hid ⟨n, D, ho, fun s k hk z => ha s k hk (by unfold doneX; rw [hl0]; simp) z⟩
      have HB := Lib.hid hw
      clear hrg ho hw ha hl0 hgA hA hsA hrgA hown
      go_wp2_with fail
      go_ret
      exact ⟨_, rfl, Nat.le_refl _, HF.out, HB.out⟩
    · intro x c kl y ps w1 cnt1 hkx hlx hy hatx hrg1 hlt hg1 hs1 hen
      obtain rfl : kl = .string x := strKey_kl hkx
      obtain ⟨k, hk, rfl⟩ : ∃ k, Lg.place Lg.xnames x = some k ∧ c = fnV (ordFn k) := by
        cases hp : Lg.place Lg.xnames x with
        | none =>
          exfalso
          have h1 := hatx (.map [])
          have h2 := hatx (.lit (.bool true))
          have e : ∀ z, DX.atKey (.string x) z = z := fun z => by rw [HAT.out x z, show Lg.place [[61], [33, 61], [62], [62, 61], [60], [60, 61]] x = none from hp]
          rw [e] at h1 h2
          rw [← h1] at h2
          cases h2
        | some k =>
          refine ⟨k, rfl, ?_⟩
          have h1 := hatx (.map [])
          rw [HAT.out x, show Lg.place [[61], [33, 61], [62], [62, 61], [60], [60, 61]] x = some k from hp] at h1
          have h1 : DataW.lit (.int .i64 (ordFn k)) = y := h1
          subst h1
          exact fnElem_inv hy
      obtain ⟨hk2, hname⟩ := place_x hk
      have hbl : w.heap.size < w9.heap.size := by obtain ⟨D, ho, -, -⟩ := O9.out; exact ho.lt
      have hiter : ∃ m s e c, wr.heap[w9.heap.size]? = some (.mapIter m s e c) := by
        obtain ⟨es, clock, since, seen, c0, -, -, -, -, hr, -⟩ := hrg
        exact ⟨_, _, _, _, hr⟩
      have oi1 := HI.out.other hg1 (by omega) (by omega) hiter
      obtain ⟨w5, hw5⟩ : ∃ w5, w1.alloc (.cells #[.func (.func (ordFn k)) #[] #[]] 200) = w5 := ⟨_, rfl⟩
      have hb5 : Below w1.heap.size w1 w5 := by rw [← hw5]; exact (Below.refl _ _).alloc (Nat.le_refl _) _
      have hc5 : w5.cell? ⟨w1.heap.size, 0, none⟩ = some (.func (.func (ordFn k)) #[] #[]) := by rw [← hw5]; exact (Blk.new _ _ _).cell 0 rfl
      have hrg5 : w5.ranges Tryz.prog 9 fnElem mo w9.heap.size 6 DX (fun z => left z && !z.sameKey (.string x)) cnt1 := by rw [← hw5]; exact hrg1.alloc _
      obtain ⟨w6, e6, oi6, hg6⟩ := (oi1.below hb5).put (Nat.le_refl _) (by omega) x hk2 (by
        have := place_lt hk
        have h3 := place_get hk
        have hall : ∀ z ∈ Lg.xnames, z.length ≤ maxLen := by decide
        exact hall x (List.mem_of_getElem? h3)) (fnB 109 w1.heap.size) _ (fnElem_box _ _) ⟨_, rfl, hc5⟩
      have hrg6 := hrg5.kept hg6 (by simp; exact fun e => HMO.out e.symm) (by simp; omega)
      have HI6 := Lib.hid (oi6.mono (done' := doneX (fun z => left z && !z.sameKey (.string x))) (fun s j hj hd => by
        by_cases hjk : j = k + 8
        · rw [if_pos hjk]
        · rw [if_neg hjk]
          unfold doneX at hd ⊢
          by_cases h8 : j < 8
          · rw [decide_eq_true h8, Bool.true_or]
          · rw [decide_eq_false h8, Bool.false_or, x_name hj] at hd ⊢
            have hsx : s ≠ x := by
              rintro rfl
              rw [hk2] at hj
              injection hj with hj
              exact hjk hj.symm
            have hsk : (Lit.string s).sameKey (.string x) = false := same_str hsx
            have hd : (!(left (.string s) && !(Lit.string s).sameKey (.string x))) = true := hd
            rw [hsk] at hd
            simpa using hd))
      rw [hs1, ← hw5] at e6
      unfold fnB at e6
      unfold fnV at hen
      have HRG := Lib.hid hrg6
      clear hrg hrg1 hrg5 hrg6 oi1 oi6 hg1 hg6 hb5 hc5 hw5 hatx hy hlx hkx hgA hA hsA hrgA hown hiter hname hk2 hk
      go_wp2_with fail
      go_roundg cnt1
      case measure => exact hlt
      case rel => exact ⟨_, n + 1, HRG.out, by omega, HI6⟩

end Go.Proofs.YtfgmmaahbngonaaGreatDoor

/-
  What the walks of this seat lean on: a slice of bytes in memory, and facts that outlive new blocks.
  No condition.
-/
namespace Go.Proofs.YtfgmmaahbngonaaGreatDoor.Rg
open Go.RowKit

/-- The bytes that lie behind a slice's pointer. -/
def Bs (w : World) (p : Option Addr) (xs : List UInt8) : Prop :=
  0 < xs.length → ∃ b o, p = some ⟨b, o, none⟩ ∧ ∀ i, i < xs.length → w.cell? ⟨b, o + i, none⟩ = some (.int .u8 (xs.getD i 0).toNat)

theorem Bs.nil (w : World) (p : Option Addr) : Bs w p [] := fun h => absurd h (Nat.lt_irrefl 0)

theorem Bs.below {B : Nat} {w w' : World} {p : Option Addr} {xs : List UInt8} (h : Bs w p xs) (hb : Below B w w') (hB : w.heap.size ≤ B) : Bs w' p xs := by
  intro hl
  obtain ⟨b, o, hp, hc⟩ := h hl
  refine ⟨b, o, hp, fun i hi => ?_⟩
  have hlt : b < w.heap.size := World.block_lt_of_cell? _ _ (hc i hi)
  rw [hb.cell (p := ⟨b, o + i, none⟩) (by simp; omega)]
  exact hc i hi

theorem Bs.at {w : World} {b o : Nat} {xs : List UInt8} (h : Bs w (some ⟨b, o, none⟩) xs) (i : Nat) (hi : i < xs.length) : w.cell? ⟨b, o + i, none⟩ = some (.int .u8 (xs.getD i 0).toNat) := by
  obtain ⟨b', o', hp, hc⟩ := h (by omega)
  simp at hp
  obtain ⟨rfl, rfl⟩ := hp
  exact hc i hi

/-- Behind a callee that leaves old blocks alone: old cells and marks read as before. -/
theorem bcell {W w1 : World} (hb : Below W.heap.size W w1) : (∀ b o, b < W.heap.size → w1.cell? ⟨b, o, none⟩ = W.cell? ⟨b, o, none⟩) ∧ (∀ b o, b < W.heap.size → w1.frozen? ⟨b, o, none⟩ = W.frozen? ⟨b, o, none⟩) :=
  ⟨fun b o h => hb.cell (p := ⟨b, o, none⟩) h, fun b o h => hb.frozen (p := ⟨b, o, none⟩) h⟩

/-- A callee behind a new block. -/
theorem below_new {w w1 : World} {o : Obj} (h : Below (w.alloc o).heap.size (w.alloc o) w1) : Below w.heap.size w w1 :=
  ((Below.refl _ _).alloc (Nat.le_refl _) _).trans (h.mono (by simp))

/-- An old cell behind a new block. -/
theorem new_cell {w : World} {b o : Nat} {v : Value} (h : w.cell? ⟨b, o, none⟩ = some v) : ∀ x, (w.alloc x).cell? ⟨b, o, none⟩ = some v :=
  fun x => by rw [World.cell?_alloc_lt _ _ _ (World.block_lt_of_cell? _ _ h)]; exact h
theorem new_frozen {w : World} {b o : Nat} {v : Value} (hc : w.cell? ⟨b, o, none⟩ = some v) (h : w.frozen? ⟨b, o, none⟩ = false) : ∀ x, (w.alloc x).frozen? ⟨b, o, none⟩ = false :=
  fun x => by rw [World.frozen?_alloc_old _ _ _ (Nat.ne_of_lt (World.block_lt_of_cell? _ _ hc))]; exact h

theorem Bs.drew {w : World} {p : Option Addr} {xs : List UInt8} (h : Bs w p xs) (n : Nat) : Bs (w.drewN n) p xs := by
  intro hl
  obtain ⟨b, o, hp, hc⟩ := h hl
  exact ⟨b, o, hp, fun i hi => hc i hi⟩

/-- A block of memory, known whole; none of it is frozen. -/
def Blk (w : World) (b : Nat) (cs : Array Value) (t : TypeId) : Prop := w.heap[b]? = some (.cells cs t (0, 0))

theorem Blk.lt {w : World} {b : Nat} {cs : Array Value} {t : TypeId} (h : Blk w b cs t) : b < w.heap.size := lt_of_block h
theorem Blk.cell {w : World} {b : Nat} {cs : Array Value} {t : TypeId} (h : Blk w b cs t) (i : Nat) {v : Value} (hv : cs[i]? = some v) : w.cell? ⟨b, i, none⟩ = some v := by
  unfold Blk at h; simp [World.cell?, h, hv]
theorem Blk.free {w : World} {b : Nat} {cs : Array Value} {t : TypeId} (h : Blk w b cs t) (i : Nat) : w.frozen? ⟨b, i, none⟩ = false := by
  unfold Blk at h; simp [World.frozen?, h]
theorem Blk.keep {w w' : World} {b : Nat} {cs : Array Value} {t : TypeId} (h : Blk w b cs t) {B : Nat} (hb : Below B w w') (hB : b < B) : Blk w' b cs t := (hb.block b hB).trans h
theorem Blk.new (w : World) (cs : Array Value) (t : TypeId) : Blk (w.alloc (.cells cs t)) w.heap.size cs t := heap_alloc_new w _
theorem Blk.alloc {w : World} {b : Nat} {cs : Array Value} {t : TypeId} (h : Blk w b cs t) (o : Obj) : Blk (w.alloc o) b cs t := (Below.heap_alloc w o b h.lt).trans h
theorem Blk.drew {w : World} {b : Nat} {cs : Array Value} {t : TypeId} (h : Blk w b cs t) : Blk w.drew b cs t := h
theorem Blk.drewN {w : World} {b : Nat} {cs : Array Value} {t : TypeId} (h : Blk w b cs t) (n : Nat) : Blk (w.drewN n) b cs t := h
theorem Blk.set {w : World} {b : Nat} {cs : Array Value} {t : TypeId} (h : Blk w b cs t) (i : Nat) (v : Value) : Blk (w.setCell ⟨b, i, none⟩ v) b (cs.setIfInBounds i v) t := by
  have hlt := h.lt
  have h' : w.heap[b] = .cells cs t (0, 0) := by have := h; unfold Blk at this; simpa [Array.getElem?_eq_getElem hlt] using this
  show (w.heap.modify b _)[b]? = _
  rw [Array.getElem?_eq_getElem (by simpa using hlt), Array.getElem_modify_self, h']
  rfl
theorem Blk.setOther {w : World} {b : Nat} {cs : Array Value} {t : TypeId} (h : Blk w b cs t) {a : Addr} (ha : b ≠ a.block) (v : Value) : Blk (w.setCell a v) b cs t :=
  (Below.heap_setCell w a v b ha).trans h

theorem extract_take (l : List UInt8) (k : Nat) : (⟨l.toArray⟩ : ByteArray).extract 0 k = ⟨(l.take k).toArray⟩ := by
  apply ByteArray.ext; simp [ByteArray.data_extract]
theorem extract_drop (l : List UInt8) (k : Nat) : (⟨l.toArray⟩ : ByteArray).extract k l.length = ⟨(l.drop k).toArray⟩ := by
  apply ByteArray.ext; simp [ByteArray.data_extract]
  exact List.take_of_length_le (by simp)

theorem ret_int {k : IntKind} {a b : Int} (h : a = b) : Ending.returned (.int k a) = Ending.returned (.int k b) := by rw [h]
theorem ret_bool {a b : Bool} (h : a = b) : Ending.returned (.bool a) = Ending.returned (.bool b) := by rw [h]
theorem ret_str {a b : ByteArray} (h : a = b) : Ending.returned (.string a) = Ending.returned (.string b) := by rw [h]

/-! Bytes as whole numbers. -/
theorem u8_beq (a b : UInt8) : (a == b) = ((a.toNat : Int) == (b.toNat : Int)) := by
  rw [Bool.eq_iff_iff]; simp only [beq_iff_eq]; constructor
  · rintro rfl; rfl
  · intro h; exact UInt8.toNat_inj.1 (by omega)
theorem u8_eq (a b : UInt8) : (a = b) = ((a.toNat : Int) = (b.toNat : Int)) := by
  apply propext; constructor
  · rintro rfl; rfl
  · intro h; exact UInt8.toNat_inj.1 (by omega)
theorem u8_le (a b : UInt8) : (a ≤ b) = ((a.toNat : Int) ≤ (b.toNat : Int)) := by
  apply propext; rw [UInt8.le_iff_toNat_le]; omega
theorem u8_lt (a b : UInt8) : (a < b) = ((a.toNat : Int) < (b.toNat : Int)) := by
  apply propext; rw [UInt8.lt_iff_toNat_lt]; omega
theorem u8_or (a b : UInt8) : bits .or .u8 (a.toNat : Int) (b.toNat : Int) = ((a ||| b).toNat : Int) := by
  rw [Go.u8_or_nat _ _ a.toNat_lt b.toNat_lt, UInt8.toNat_or]
theorem u8_bd (a : UInt8) : (0 : Int) ≤ (a.toNat : Int) ∧ (a.toNat : Int) < 256 := ⟨by omega, by have := a.toNat_lt; omega⟩

end Go.Proofs.YtfgmmaahbngonaaGreatDoor.Rg
