/-
  Texts of this seat put together: L2, T1, T2.
-/
import Derived.Test.YtfgmmaahbngonaaGreatDoorQ4
import Derived.Maps.OwnSet
import Derived.ChangeMaps
import Derived.Test.YtfgmmaahbngonaaGreatDoorQ3
import Derived.RangeFuncNested
import Derived.RangeFuncBound
import Derived.RangeFuncCalls
import Derived.RangeFuncLeaves
import Derived.Shelf.Abstract
import Derived.Shelf.RegionOpen
import Derived.OwnWalkIn
import Derived.TacticsInMore
import Derived.LoopNIn
import Derived.LoopIn

/-
  The walks of logic's orders, sign and usage: functions in a map. Condition: the names are no longer than memory allows.
-/
namespace Go.Proofs.YtfgmmaahbngonaaGreatDoor
open Go.RowKit Go.Shelf Go.Maps

/-- A struct of one function. -/
def fnV (n : Nat) : Value := .agg #[.func (.func n) #[] #[]]
/-- How it reads in a map: a function's number, and where what it holds lies. -/
def fnList : List Value → Option (DataW Unit × List MemPlace)
  | [.func (.func n) a b] => if a = #[] ∧ b = #[] then some (.lit (.int .i64 n), []) else if a = #[] then (match b.toList with
    | [.pointer (some ⟨c, 0, none⟩)] => some (.agg [.lit (.int .i64 n), .lit (.int .i64 c)], [])
    | _ => none) else none
  | [.nilFunc] => some (.lit (.int .i64 (-1)), [])
  | _ => none
def fnElem : Value → Option (DataW Unit × List MemPlace)
  | .agg cs => fnList cs.toList
  | _ => none
theorem fnElem_fn (n : Nat) : fnElem (fnV n) = some (.lit (.int .i64 n), []) := rfl
def fnB (n c : Nat) : Value := .agg #[.func (.func n) #[] #[.pointer (some ⟨c, 0, none⟩)]]
theorem fnElem_box (n c : Nat) : fnElem (fnB n c) = some (.agg [.lit (.int .i64 n), .lit (.int .i64 c)], []) := rfl
theorem fnElem_inv {v : Value} {n : Nat} {ps : List MemPlace} (h : fnElem v = some (.lit (.int .i64 n), ps)) : v = fnV n := by
  unfold fnElem at h
  split at h
  · rename_i cs
    unfold fnList at h
    split at h
    · rename_i e
      split at h
      · rename_i hs
        obtain ⟨rfl, rfl⟩ := hs
        simp only [Option.some.injEq, Prod.mk.injEq, DataW.lit.injEq, Lit.int.injEq, true_and] at h
        obtain ⟨h1, -⟩ := h
        obtain rfl := Int.ofNat.inj h1
        exact congrArg Value.agg (Array.toList_inj.1 e)
      · split at h
        · split at h
          · simp at h
          · cases h
        · cases h
    · simp only [Option.some.injEq, Prod.mk.injEq, DataW.lit.injEq, Lit.int.injEq, true_and] at h
      omega
    · cases h
  · cases h
theorem fnElem_inv_box {v : Value} {n c : Nat} {ps : List MemPlace} (h : fnElem v = some (.agg [.lit (.int .i64 n), .lit (.int .i64 c)], ps)) : v = fnB n c := by
  unfold fnElem at h
  split at h
  · rename_i cs
    unfold fnList at h
    split at h
    · rename_i f a b e
      split at h
      · simp at h
      · split at h
        · rename_i ha
          split at h
          · rename_i d hb
            subst ha
            simp only [Option.some.injEq, Prod.mk.injEq, DataW.agg.injEq, List.cons.injEq, DataW.lit.injEq, Lit.int.injEq, true_and, and_true] at h
            obtain ⟨⟨h1, h2⟩, -⟩ := h
            obtain rfl := Int.ofNat.inj h1
            obtain rfl := Int.ofNat.inj h2
            have hb' : b = #[.pointer (some ⟨d, 0, none⟩)] := Array.toList_inj.1 hb
            subst hb'
            exact congrArg Value.agg (Array.toList_inj.1 e)
          · cases h
        · cases h
    · simp at h
    · cases h
  · cases h

theorem kStr : Keyed Tryz.prog 9 := Maps.string_keyed Tryz.underlying9
theorem grown_below {b B : Nat} {w w' : World} (h : w.grownBy w' (some b)) (hb : B ≤ b) (hw : B ≤ w.heap.size) : Below B w w' :=
  ⟨h.os, h.tape, h.output, h.size, fun k hk => h.block k (by omega) (by simp; omega)⟩

theorem cmp0_any (n : Int) (w : World) : Calls Tryz.prog 90 #[.int .i64 n] w fun e w' => e = .returned (.bool (Lg.cmpK 0 n)) ∧ w' = w := by
  go_enter Tryz.func90, Tryz.ntmps90
  go_wp2_with fail
  go_ret
  exact ⟨rfl, rfl⟩
theorem cmp1_any (n : Int) (w : World) : Calls Tryz.prog 91 #[.int .i64 n] w fun e w' => e = .returned (.bool (Lg.cmpK 1 n)) ∧ w' = w := by
  go_enter Tryz.func91, Tryz.ntmps91
  go_wp2_with fail
  go_ret
  exact ⟨rfl, rfl⟩
theorem cmp2_any (n : Int) (w : World) : Calls Tryz.prog 92 #[.int .i64 n] w fun e w' => e = .returned (.bool (Lg.cmpK 2 n)) ∧ w' = w := by
  go_enter Tryz.func92, Tryz.ntmps92
  go_wp2_with fail
  go_ret
  exact ⟨rfl, rfl⟩
theorem cmp3_any (n : Int) (w : World) : Calls Tryz.prog 93 #[.int .i64 n] w fun e w' => e = .returned (.bool (Lg.cmpK 3 n)) ∧ w' = w := by
  go_enter Tryz.func93, Tryz.ntmps93
  go_wp2_with fail
  go_ret
  exact ⟨rfl, rfl⟩
theorem cmp4_any (n : Int) (w : World) : Calls Tryz.prog 94 #[.int .i64 n] w fun e w' => e = .returned (.bool (Lg.cmpK 4 n)) ∧ w' = w := by
  go_enter Tryz.func94, Tryz.ntmps94
  go_wp2_with fail
  go_ret
  exact ⟨rfl, rfl⟩
theorem cmp5_any (n : Int) (w : World) : Calls Tryz.prog 95 #[.int .i64 n] w fun e w' => e = .returned (.bool (Lg.cmpK 5 n)) ∧ w' = w := by
  go_enter Tryz.func95, Tryz.ntmps95
  go_wp2_with fail
  go_ret
  exact ⟨rfl, rfl⟩

def ordFn : Nat → Nat
  | 0 => 90
  | 1 => 91
  | 2 => 92
  | 3 => 93
  | 4 => 94
  | _ => 95
/-- A function of the orders, whichever. -/
def IsCmp (k n : Nat) : Prop := (∀ args w, (callFunc n args).run Tryz.prog w = .ok (.enter n args) w) ∧ ∀ (x : Int) (w : World), Calls Tryz.prog n #[.int .i64 x] w fun e w' => e = .returned (.bool (Lg.cmpK k x)) ∧ w' = w
set_option maxRecDepth 100000 in
theorem isCmp (k : Nat) (hk : k < 6) : IsCmp k (ordFn k) := by
  match k, hk with
  | 0, _ => exact ⟨fun args w => rfl, cmp0_any⟩
  | 1, _ => exact ⟨fun args w => rfl, cmp1_any⟩
  | 2, _ => exact ⟨fun args w => rfl, cmp2_any⟩
  | 3, _ => exact ⟨fun args w => rfl, cmp3_any⟩
  | 4, _ => exact ⟨fun args w => rfl, cmp4_any⟩
  | 5, _ => exact ⟨fun args w => rfl, cmp5_any⟩

/-! A region that draws its order: what holds at each step. -/
theorem ready_at {md : Region.Mode} {ops : Array Oper} {l : Array Bool} {i : Nat} (h : i ∈ Region.ready md ops l) : i < ops.size ∧ l.getD i true = false ∧ ((ops[i]?).map (·.after.all fun e => !Region.binds md e || l.getD e.on false)).getD false = true := by
  unfold Region.ready at h
  rw [List.mem_filter, List.mem_range, Bool.and_eq_true, Bool.not_eq_true'] at h
  exact ⟨h.1, h.2.1, h.2.2⟩
theorem ready_none {md : Region.Mode} {ops : Array Oper} {l : Array Bool} (h : Region.ready md ops l = []) {i : Nat} (hi : i < ops.size) (ha : ((ops[i]?).map (·.after.all fun e => !Region.binds md e || l.getD e.on false)).getD false = true) : l.getD i true = true := by
  cases hb : l.getD i true with
  | true => rfl
  | false =>
    have : i ∈ Region.ready md ops l := by
      unfold Region.ready
      rw [List.mem_filter, List.mem_range, Bool.and_eq_true, Bool.not_eq_true']
      exact ⟨hi, hb, ha⟩
    rw [h] at this
    cases this
theorem getD_false_at {l : Array Bool} {i : Nat} (h : l.getD i true = false) : ∃ hi : i < l.toList.length, l.toList[i] = false := by
  unfold Array.getD at h
  split at h
  · rename_i hi
    exact ⟨by simpa using hi, by simpa using h⟩
  · cases h
theorem wpAny_inv {P : Program} {md : Region.Mode} {ops : Array Oper} {Q : Exit → Act → World → Prop} (I : Array Bool → Act → World → Prop)
    (hs : ∀ l a w, I l a w → ∀ i, i ∈ Region.ready md ops l → wpOp P ops Q i (I (l.setIfInBounds i true)) a w)
    (he : ∀ l a w, I l a w → Region.ready md ops l = [] → Q .normal a w) :
    ∀ (fuel : Nat) (l : Array Bool) (a : Act) (w : World), I l a w → l.toList.countP (fun b => !b) ≤ fuel → wpAny P md ops Q fuel l a w
  | 0, l, a, w, h, hf => by
    have hr : Region.ready md ops l = [] := by
      refine List.eq_nil_iff_forall_not_mem.2 fun i hi => ?_
      obtain ⟨hl, hv⟩ := getD_false_at (ready_at hi).2.1
      have := (List.countP_pos_iff (p := fun b => !b) (l := l.toList)).2 ⟨_, List.getElem_mem hl, by simp [hv]⟩
      omega
    exact ⟨hr, he l a w h hr⟩
  | fuel + 1, l, a, w, h, hf => by
    refine ⟨he l a w h, fun i hi => wpOp_mono (fun a' w' h' => wpAny_inv I hs he fuel _ a' w' h' ?_) (hs l a w h i hi)⟩
    obtain ⟨hl, hv⟩ := getD_false_at (ready_at hi).2.1
    rw [Array.toList_setIfInBounds, List.countP_set hl]
    simp only [hv, Bool.not_false, if_true, Bool.not_true, Bool.false_eq_true, if_false]
    omega

/-! The orders' map. -/
/-- Which of the names that are there already a text is. -/
def pickF (c : Nat → Bool) : Nat → List Bts → Bts → Option Nat
  | _, [], _ => none
  | i, x :: r, s => if c i = true ∧ x = s then some i else pickF c (i + 1) r s
theorem pick_none (c : Nat → Bool) (k : Nat) (s : Bts) : ∀ (r : List Bts) (i : Nat), (s ∉ r ∨ k < i) → pickF (fun j => if j = k then true else c j) i r s = pickF c i r s
  | [], _, _ => rfl
  | x :: r, i, h => by
    rw [pickF, pickF]
    by_cases hx : x = s
    · have hk : ¬ i = k := by
        rcases h with h | h
        · exact absurd (hx ▸ List.mem_cons_self ..) h
        · omega
      simp only [if_neg hk]
      rw [pick_none c k s r (i + 1) (by
        rcases h with h | h
        · exact .inl fun hm => h (List.mem_cons_of_mem _ hm)
        · exact .inr (by omega))]
    · rw [if_neg (fun e => hx e.2), if_neg (fun e => hx e.2)]
      exact pick_none c k s r (i + 1) (by
        rcases h with h | h
        · exact .inl fun hm => h (List.mem_cons_of_mem _ hm)
        · exact .inr (by omega))
theorem pick_set (c : Nat → Bool) (k : Nat) (nk : Bts) (s : Bts) : ∀ (r : List Bts) (i : Nat), i ≤ k → r.Nodup → r[k - i]? = some nk → pickF (fun j => if j = k then true else c j) i r s = if s = nk then some k else pickF c i r s
  | [], _, _, _, h => by simp at h
  | x :: r, i, hik, hd, h => by
    obtain ⟨hx, hr⟩ := List.nodup_cons.1 hd
    by_cases hk : i = k
    · subst hk
      simp only [Nat.sub_self, List.getElem?_cons_zero, Option.some.injEq] at h
      subst h
      rw [pickF, pickF]
      by_cases hs : s = x
      · subst hs; simp
      · have hs2 : ¬ x = s := fun e => hs e.symm
        rw [if_neg (fun e => hs2 e.2), if_neg hs, if_neg (fun e => hs2 e.2)]
        exact pick_none c i s r (i + 1) (.inr (by omega))
    · have h' : r[k - (i + 1)]? = some nk := by
        rw [show k - i = (k - (i + 1)) + 1 by omega, List.getElem?_cons_succ] at h
        exact h
      have ih := pick_set c k nk s r (i + 1) (by omega) hr h'
      rw [pickF, pickF, ih]
      simp only [if_neg hk]
      by_cases hxs : x = s
      · have hne : ¬ s = nk := fun e => hx (by rw [hxs, e]; exact List.mem_of_getElem? h')
        rw [if_neg hne, if_neg hne]
      · have hn : ¬ (c i = true ∧ x = s) := fun e => hxs e.2
        simp only [if_neg hn]
theorem pick_all (c : Nat → Bool) (s : Bts) : ∀ (r : List Bts) (i : Nat), (∀ j, i ≤ j → j < i + r.length → c j = true) → pickF c i r s = (Lg.place r s).map (· + i)
  | [], _, _ => rfl
  | x :: r, i, h => by
    rw [pickF, Lg.place]
    by_cases hx : x = s
    · rw [if_pos ⟨h i (Nat.le_refl _) (by simp), hx⟩, if_pos hx]; simp
    · rw [if_neg (fun e => hx e.2), if_neg hx, pick_all c s r (i + 1) (fun j h1 h2 => h j (by omega) (by simp; omega)), Option.map_map]
      congr 1
      funext y
      simp only [Function.comp]
      omega
/-- A map of ways to compare, while it is laid. -/
def OrdW (w : World) (names : List Bts) (c : Nat → Bool) (n : Nat) (W : World) : Prop := ∃ D : DataW Unit, W.ownsMap Tryz.prog 9 fnElem w.heap.size n D ∧ Below w.heap.size w W ∧ ∀ (s : Bts) (z : DataW Unit), D.atKey (.string s) z = match pickF c 0 names s with | some k => .lit (.int .i64 (ordFn k)) | none => z
/-- .. and when it is there. -/
def OrdAt (W : World) (m : Nat) (names : List Bts) : Prop := ∃ D : DataW Unit, W.ownsMap Tryz.prog 9 fnElem m 6 D ∧ ∀ (s : Bts) (z : DataW Unit), D.atKey (.string s) z = match Lg.place names s with | some k => .lit (.int .i64 (ordFn k)) | none => z
theorem keyLit_str (s : Bts) : WideAt.IsKeyLit (.string s) := by unfold WideAt.IsKeyLit; trivial
theorem OrdW.put {w W : World} {names : List Bts} {c : Nat → Bool} {n k : Nat} {nk : Bts} (h : OrdW w names c n W) (hn : n < 1000) (hd : names.Nodup) (hk : names[k]? = some nk) (hl : nk.length ≤ maxLen) :
    ∃ W', (Instr.mapUpdate 155 (.map (some w.heap.size)) (.string ⟨nk.toArray⟩) (fnV (ordFn k))).run Tryz.prog W = .ok () W' ∧ OrdW w names (fun j => if j = k then true else c j) (n + 1) W' := by
  obtain ⟨D, ho, hb, ha⟩ := h
  obtain ⟨W', hrun, h1, h2⟩ := World.ownsMap.update ho kStr (t := 155) Tryz.underlying155 (by unfold maxLen; omega) (key := .string ⟨nk.toArray⟩) (val := fnV (ordFn k)) (kl := .string nk) (Go.WideMaps.keyOf_string_mk Tryz.underlying9 (by simpa [ByteArray.size] using hl)) (fnElem_fn _)
  refine ⟨W', hrun, _, h1, hb.trans (grown_below h2 (Nat.le_refl _) hb.size), fun s z => ?_⟩
  rw [pick_set c k nk s names 0 (Nat.zero_le _) hd (by simpa using hk)]
  by_cases hs : s = nk
  · subst hs
    rw [if_pos rfl]
    exact atKey_put_same ho.isMap (keyLit_str _) _ _
  · rw [if_neg hs, atKey_put_other (fun e => hs (by injection e)), ha s z]


def ordC (b3 b6 b9 b12 b15 b18 : Bool) : Nat → Bool
  | 0 => b3
  | 1 => b6
  | 2 => b9
  | 3 => b12
  | 4 => b15
  | 5 => b18
  | _ => false
theorem ordC_0 (c1 c2 c3 c4 c5 : Bool) : (fun j => if j = 0 then true else ordC false c1 c2 c3 c4 c5 j) = ordC true c1 c2 c3 c4 c5 := by
  funext j
  match j with
  | 0 => rfl
  | 1 => rfl
  | 2 => rfl
  | 3 => rfl
  | 4 => rfl
  | 5 => rfl
  | n + 6 => simp [ordC]
theorem ordC_1 (c0 c2 c3 c4 c5 : Bool) : (fun j => if j = 1 then true else ordC c0 false c2 c3 c4 c5 j) = ordC c0 true c2 c3 c4 c5 := by
  funext j
  match j with
  | 0 => rfl
  | 1 => rfl
  | 2 => rfl
  | 3 => rfl
  | 4 => rfl
  | 5 => rfl
  | n + 6 => simp [ordC]
theorem ordC_2 (c0 c1 c3 c4 c5 : Bool) : (fun j => if j = 2 then true else ordC c0 c1 false c3 c4 c5 j) = ordC c0 c1 true c3 c4 c5 := by
  funext j
  match j with
  | 0 => rfl
  | 1 => rfl
  | 2 => rfl
  | 3 => rfl
  | 4 => rfl
  | 5 => rfl
  | n + 6 => simp [ordC]
theorem ordC_3 (c0 c1 c2 c4 c5 : Bool) : (fun j => if j = 3 then true else ordC c0 c1 c2 false c4 c5 j) = ordC c0 c1 c2 true c4 c5 := by
  funext j
  match j with
  | 0 => rfl
  | 1 => rfl
  | 2 => rfl
  | 3 => rfl
  | 4 => rfl
  | 5 => rfl
  | n + 6 => simp [ordC]
theorem ordC_4 (c0 c1 c2 c3 c5 : Bool) : (fun j => if j = 4 then true else ordC c0 c1 c2 c3 false c5 j) = ordC c0 c1 c2 c3 true c5 := by
  funext j
  match j with
  | 0 => rfl
  | 1 => rfl
  | 2 => rfl
  | 3 => rfl
  | 4 => rfl
  | 5 => rfl
  | n + 6 => simp [ordC]
theorem ordC_5 (c0 c1 c2 c3 c4 : Bool) : (fun j => if j = 5 then true else ordC c0 c1 c2 c3 c4 false j) = ordC c0 c1 c2 c3 c4 true := by
  funext j
  match j with
  | 0 => rfl
  | 1 => rfl
  | 2 => rfl
  | 3 => rfl
  | 4 => rfl
  | 5 => rfl
  | n + 6 => simp [ordC]
def ordAct (b : Nat) (n0 n1 n2 n3 n4 n5 : Bts) (b0 b1 b2 _b3 b4 b5 _b6 b7 b8 _b9 b10 b11 _b12 b13 b14 _b15 b16 b17 _b18 b19 b20 : Bool) : Act := { tmps := #[.string ⟨n0.toArray⟩, .string ⟨n1.toArray⟩, .string ⟨n2.toArray⟩, .string ⟨n3.toArray⟩, .string ⟨n4.toArray⟩, .string ⟨n5.toArray⟩, undef, undef, undef, undef, undef, undef, bif b20 then .map (some b) else .map none, bif b0 then .map (some b) else undef, bif b1 then .string ⟨n0.toArray⟩ else undef, bif b2 then fnV 90 else undef, bif b4 then .string ⟨n1.toArray⟩ else undef, bif b5 then fnV 91 else undef, bif b7 then .string ⟨n2.toArray⟩ else undef, bif b8 then fnV 92 else undef, bif b10 then .string ⟨n3.toArray⟩ else undef, bif b11 then fnV 93 else undef, bif b13 then .string ⟨n4.toArray⟩ else undef, bif b14 then fnV 94 else undef, bif b16 then .string ⟨n5.toArray⟩ else undef, bif b17 then fnV 95 else undef, bif b19 then .map (some b) else undef], defers := [] }
/-- What holds while the orders' map is laid, whatever the order. -/
def OrdI (w : World) (n0 n1 n2 n3 n4 n5 : Bts) (l : Array Bool) (a : Act) (W : World) : Prop := ∃ b0 b1 b2 b3 b4 b5 b6 b7 b8 b9 b10 b11 b12 b13 b14 b15 b16 b17 b18 b19 b20 : Bool, l = #[b0, b1, b2, b3, b4, b5, b6, b7, b8, b9, b10, b11, b12, b13, b14, b15, b16, b17, b18, b19, b20] ∧ a = ordAct w.heap.size n0 n1 n2 n3 n4 n5 b0 b1 b2 b3 b4 b5 b6 b7 b8 b9 b10 b11 b12 b13 b14 b15 b16 b17 b18 b19 b20 ∧
  ((b0 = false ∧ W = w.drew ∧ b3 = false ∧ b6 = false ∧ b9 = false ∧ b12 = false ∧ b15 = false ∧ b18 = false) ∨
   (b0 = true ∧ OrdW w [n0, n1, n2, n3, n4, n5] (ordC b3 b6 b9 b12 b15 b18) (b3.toNat + b6.toNat + b9.toNat + b12.toNat + b15.toNat + b18.toNat) W))
theorem OrdW.cnt {w W : World} {names : List Bts} {c : Nat → Bool} {n n' : Nat} (h : OrdW w names c n W) (hn : n ≤ n') : OrdW w names c n' W := by
  obtain ⟨D, ho, hb, ha⟩ := h
  exact ⟨D, ho.mono hn, hb, ha⟩
theorem wpOp_of {P : Program} {ops : Array Oper} {Q : Exit → Act → World → Prop} {i : Nat} {K : Act → World → Prop} {a : Act} {w : World} {o : Oper} (ho : ops[i]? = some o) (hg : o.guard = none) (h : o.wp P a w K Q) : wpOp P ops Q i K a w := by
  unfold wpOp
  rw [ho]
  simp only
  rw [if_pos (by unfold Region.wanted; rw [hg])]
  exact .inl h
theorem value_wp {P : Program} {Q : Exit → Act → World → Prop} {K : Act → World → Prop} {a : Act} {w : World} {o : Oper} {v : Value} (hrun : (execOp a.eval o).run P w = .ok (.value v) w) (h : K (a.put o.dst v) w) : o.wp P a w K Q := by
  unfold Oper.wp
  rw [hrun]
  exact h
theorem insert_wp {P : Program} {Q : Exit → Act → World → Prop} {K : Act → World → Prop} {a : Act} {w w' : World} {o : Oper} (t : TypeId) (m x v : Operand) (hop : o.op = .insert t m x v) (hd : o.dst = none) (hrun : (Instr.mapUpdate t (a.eval m) (a.eval x) (a.eval v)).run P w = .ok () w') (h : K a w') : o.wp P a w K Q := by
  unfold Oper.wp
  simp [execOp, hop, hrun, Result.andThen, Oper.upon, hd]
  exact h
set_option maxHeartbeats 4000000 in
set_option maxRecDepth 100000 in
theorem orders_any (n0 n1 n2 n3 n4 n5 : Bts) (h0 : n0.length ≤ maxLen) (h1 : n1.length ≤ maxLen) (h2 : n2.length ≤ maxLen) (h3 : n3.length ≤ maxLen) (h4 : n4.length ≤ maxLen) (h5 : n5.length ≤ maxLen) (hd : [n0, n1, n2, n3, n4, n5].Nodup) (w : World) :
    Calls Tryz.prog 57 #[.string ⟨n0.toArray⟩, .string ⟨n1.toArray⟩, .string ⟨n2.toArray⟩, .string ⟨n3.toArray⟩, .string ⟨n4.toArray⟩, .string ⟨n5.toArray⟩] w fun e w' => ∃ m, e = .returned (.map (some m)) ∧ w.heap.size ≤ m ∧ OrdAt w' m [n0, n1, n2, n3, n4, n5] ∧ Below w.heap.size w w' := by
  go_enter Tryz.func57, Tryz.ntmps57
  go_wp2_with fail
  refine wp_region_any rfl ?_
  refine wpAny_inv (OrdI w n0 n1 n2 n3 n4 n5) ?_ ?_ _ _ _ _ ?_ ?_
  · rintro l a W ⟨b0, b1, b2, b3, b4, b5, b6, b7, b8, b9, b10, b11, b12, b13, b14, b15, b16, b17, b18, b19, b20, rfl, rfl, hW⟩ i hi
    obtain ⟨hi1, hi2, hi3⟩ := ready_at hi
    have hi1 : i < 21 := hi1
    clear hi
    rcases (show i = 0 ∨ i = 1 ∨ i = 2 ∨ i = 3 ∨ i = 4 ∨ i = 5 ∨ i = 6 ∨ i = 7 ∨ i = 8 ∨ i = 9 ∨ i = 10 ∨ i = 11 ∨ i = 12 ∨ i = 13 ∨ i = 14 ∨ i = 15 ∨ i = 16 ∨ i = 17 ∨ i = 18 ∨ i = 19 ∨ i = 20 by omega) with rfl | rfl | rfl | rfl | rfl | rfl | rfl | rfl | rfl | rfl | rfl | rfl | rfl | rfl | rfl | rfl | rfl | rfl | rfl | rfl | rfl
    · obtain rfl : b0 = false := hi2
      refine wpOp_of rfl rfl ?_
      rcases hW with ⟨-, rfl, rfl, rfl, rfl, rfl, rfl, rfl⟩ | ⟨h, -⟩
      · refine ⟨true, b1, b2, false, b4, b5, false, b7, b8, false, b10, b11, false, b13, b14, false, b16, b17, false, b19, b20, rfl, rfl, .inr ⟨rfl, .map [], World.ownsMap_made w Tryz.prog 9 fnElem, ((Below.refl _ _).alloc (Nat.le_refl _) _).drew, fun s z => ?_⟩⟩
        rw [show pickF (ordC false false false false false false) 0 [n0, n1, n2, n3, n4, n5] s = none by simp [pickF, ordC]]
        rfl
      · cases h
    · obtain rfl : b1 = false := hi2
      refine wpOp_of rfl rfl ?_
      exact ⟨b0, true, b2, b3, b4, b5, b6, b7, b8, b9, b10, b11, b12, b13, b14, b15, b16, b17, b18, b19, b20, rfl, rfl, hW⟩
    · obtain rfl : b2 = false := hi2
      refine wpOp_of rfl rfl ?_
      refine value_wp (v := fnV 90) (by kernel_rfl) ?_
      exact ⟨b0, b1, true, b3, b4, b5, b6, b7, b8, b9, b10, b11, b12, b13, b14, b15, b16, b17, b18, b19, b20, rfl, rfl, hW⟩
    · obtain rfl : b3 = false := hi2
      obtain ⟨rfl, rfl, rfl⟩ : b0 = true ∧ b1 = true ∧ b2 = true := by simpa [Region.binds] using hi3
      refine wpOp_of rfl rfl ?_
      rcases hW with ⟨h, -⟩ | ⟨-, hW⟩
      · cases h
      obtain ⟨W', hrun, hW'⟩ := hW.put (k := 0) (by simp only [Bool.toNat_false]; have := Bool.toNat_le b6; have := Bool.toNat_le b9; have := Bool.toNat_le b12; have := Bool.toNat_le b15; have := Bool.toNat_le b18; omega) hd rfl h0
      refine insert_wp _ _ _ _ rfl rfl hrun ?_
      refine ⟨true, true, true, true, b4, b5, b6, b7, b8, b9, b10, b11, b12, b13, b14, b15, b16, b17, b18, b19, b20, rfl, rfl, .inr ⟨rfl, ?_⟩⟩
      rw [← ordC_0]
      refine hW'.cnt ?_
      simp only [Bool.toNat_true, Bool.toNat_false]
      omega
    · obtain rfl : b4 = false := hi2
      refine wpOp_of rfl rfl ?_
      exact ⟨b0, b1, b2, b3, true, b5, b6, b7, b8, b9, b10, b11, b12, b13, b14, b15, b16, b17, b18, b19, b20, rfl, rfl, hW⟩
    · obtain rfl : b5 = false := hi2
      refine wpOp_of rfl rfl ?_
      refine value_wp (v := fnV 91) (by kernel_rfl) ?_
      exact ⟨b0, b1, b2, b3, b4, true, b6, b7, b8, b9, b10, b11, b12, b13, b14, b15, b16, b17, b18, b19, b20, rfl, rfl, hW⟩
    · obtain rfl : b6 = false := hi2
      obtain ⟨rfl, rfl, rfl⟩ : b0 = true ∧ b4 = true ∧ b5 = true := by simpa [Region.binds] using hi3
      refine wpOp_of rfl rfl ?_
      rcases hW with ⟨h, -⟩ | ⟨-, hW⟩
      · cases h
      obtain ⟨W', hrun, hW'⟩ := hW.put (k := 1) (by simp only [Bool.toNat_false]; have := Bool.toNat_le b3; have := Bool.toNat_le b9; have := Bool.toNat_le b12; have := Bool.toNat_le b15; have := Bool.toNat_le b18; omega) hd rfl h1
      refine insert_wp _ _ _ _ rfl rfl hrun ?_
      refine ⟨true, b1, b2, b3, true, true, true, b7, b8, b9, b10, b11, b12, b13, b14, b15, b16, b17, b18, b19, b20, rfl, rfl, .inr ⟨rfl, ?_⟩⟩
      rw [← ordC_1]
      refine hW'.cnt ?_
      simp only [Bool.toNat_true, Bool.toNat_false]
      omega
    · obtain rfl : b7 = false := hi2
      refine wpOp_of rfl rfl ?_
      exact ⟨b0, b1, b2, b3, b4, b5, b6, true, b8, b9, b10, b11, b12, b13, b14, b15, b16, b17, b18, b19, b20, rfl, rfl, hW⟩
    · obtain rfl : b8 = false := hi2
      refine wpOp_of rfl rfl ?_
      refine value_wp (v := fnV 92) (by kernel_rfl) ?_
      exact ⟨b0, b1, b2, b3, b4, b5, b6, b7, true, b9, b10, b11, b12, b13, b14, b15, b16, b17, b18, b19, b20, rfl, rfl, hW⟩
    · obtain rfl : b9 = false := hi2
      obtain ⟨rfl, rfl, rfl⟩ : b0 = true ∧ b7 = true ∧ b8 = true := by simpa [Region.binds] using hi3
      refine wpOp_of rfl rfl ?_
      rcases hW with ⟨h, -⟩ | ⟨-, hW⟩
      · cases h
      obtain ⟨W', hrun, hW'⟩ := hW.put (k := 2) (by simp only [Bool.toNat_false]; have := Bool.toNat_le b3; have := Bool.toNat_le b6; have := Bool.toNat_le b12; have := Bool.toNat_le b15; have := Bool.toNat_le b18; omega) hd rfl h2
      refine insert_wp _ _ _ _ rfl rfl hrun ?_
      refine ⟨true, b1, b2, b3, b4, b5, b6, true, true, true, b10, b11, b12, b13, b14, b15, b16, b17, b18, b19, b20, rfl, rfl, .inr ⟨rfl, ?_⟩⟩
      rw [← ordC_2]
      refine hW'.cnt ?_
      simp only [Bool.toNat_true, Bool.toNat_false]
      omega
    · obtain rfl : b10 = false := hi2
      refine wpOp_of rfl rfl ?_
      exact ⟨b0, b1, b2, b3, b4, b5, b6, b7, b8, b9, true, b11, b12, b13, b14, b15, b16, b17, b18, b19, b20, rfl, rfl, hW⟩
    · obtain rfl : b11 = false := hi2
      refine wpOp_of rfl rfl ?_
      refine value_wp (v := fnV 93) (by kernel_rfl) ?_
      exact ⟨b0, b1, b2, b3, b4, b5, b6, b7, b8, b9, b10, true, b12, b13, b14, b15, b16, b17, b18, b19, b20, rfl, rfl, hW⟩
    · obtain rfl : b12 = false := hi2
      obtain ⟨rfl, rfl, rfl⟩ : b0 = true ∧ b10 = true ∧ b11 = true := by simpa [Region.binds] using hi3
      refine wpOp_of rfl rfl ?_
      rcases hW with ⟨h, -⟩ | ⟨-, hW⟩
      · cases h
      obtain ⟨W', hrun, hW'⟩ := hW.put (k := 3) (by simp only [Bool.toNat_false]; have := Bool.toNat_le b3; have := Bool.toNat_le b6; have := Bool.toNat_le b9; have := Bool.toNat_le b15; have := Bool.toNat_le b18; omega) hd rfl h3
      refine insert_wp _ _ _ _ rfl rfl hrun ?_
      refine ⟨true, b1, b2, b3, b4, b5, b6, b7, b8, b9, true, true, true, b13, b14, b15, b16, b17, b18, b19, b20, rfl, rfl, .inr ⟨rfl, ?_⟩⟩
      rw [← ordC_3]
      refine hW'.cnt ?_
      simp only [Bool.toNat_true, Bool.toNat_false]
      omega
    · obtain rfl : b13 = false := hi2
      refine wpOp_of rfl rfl ?_
      exact ⟨b0, b1, b2, b3, b4, b5, b6, b7, b8, b9, b10, b11, b12, true, b14, b15, b16, b17, b18, b19, b20, rfl, rfl, hW⟩
    · obtain rfl : b14 = false := hi2
      refine wpOp_of rfl rfl ?_
      refine value_wp (v := fnV 94) (by kernel_rfl) ?_
      exact ⟨b0, b1, b2, b3, b4, b5, b6, b7, b8, b9, b10, b11, b12, b13, true, b15, b16, b17, b18, b19, b20, rfl, rfl, hW⟩
    · obtain rfl : b15 = false := hi2
      obtain ⟨rfl, rfl, rfl⟩ : b0 = true ∧ b13 = true ∧ b14 = true := by simpa [Region.binds] using hi3
      refine wpOp_of rfl rfl ?_
      rcases hW with ⟨h, -⟩ | ⟨-, hW⟩
      · cases h
      obtain ⟨W', hrun, hW'⟩ := hW.put (k := 4) (by simp only [Bool.toNat_false]; have := Bool.toNat_le b3; have := Bool.toNat_le b6; have := Bool.toNat_le b9; have := Bool.toNat_le b12; have := Bool.toNat_le b18; omega) hd rfl h4
      refine insert_wp _ _ _ _ rfl rfl hrun ?_
      refine ⟨true, b1, b2, b3, b4, b5, b6, b7, b8, b9, b10, b11, b12, true, true, true, b16, b17, b18, b19, b20, rfl, rfl, .inr ⟨rfl, ?_⟩⟩
      rw [← ordC_4]
      refine hW'.cnt ?_
      simp only [Bool.toNat_true, Bool.toNat_false]
      omega
    · obtain rfl : b16 = false := hi2
      refine wpOp_of rfl rfl ?_
      exact ⟨b0, b1, b2, b3, b4, b5, b6, b7, b8, b9, b10, b11, b12, b13, b14, b15, true, b17, b18, b19, b20, rfl, rfl, hW⟩
    · obtain rfl : b17 = false := hi2
      refine wpOp_of rfl rfl ?_
      refine value_wp (v := fnV 95) (by kernel_rfl) ?_
      exact ⟨b0, b1, b2, b3, b4, b5, b6, b7, b8, b9, b10, b11, b12, b13, b14, b15, b16, true, b18, b19, b20, rfl, rfl, hW⟩
    · obtain rfl : b18 = false := hi2
      obtain ⟨rfl, rfl, rfl⟩ : b0 = true ∧ b16 = true ∧ b17 = true := by simpa [Region.binds] using hi3
      refine wpOp_of rfl rfl ?_
      rcases hW with ⟨h, -⟩ | ⟨-, hW⟩
      · cases h
      obtain ⟨W', hrun, hW'⟩ := hW.put (k := 5) (by simp only [Bool.toNat_false]; have := Bool.toNat_le b3; have := Bool.toNat_le b6; have := Bool.toNat_le b9; have := Bool.toNat_le b12; have := Bool.toNat_le b15; omega) hd rfl h5
      refine insert_wp _ _ _ _ rfl rfl hrun ?_
      refine ⟨true, b1, b2, b3, b4, b5, b6, b7, b8, b9, b10, b11, b12, b13, b14, b15, true, true, true, b19, b20, rfl, rfl, .inr ⟨rfl, ?_⟩⟩
      rw [← ordC_5]
      refine hW'.cnt ?_
      simp only [Bool.toNat_true, Bool.toNat_false]
      omega
    · obtain rfl : b19 = false := hi2
      have hd19 : b0 = true ∧ b1 = true ∧ b2 = true ∧ b3 = true ∧ b4 = true ∧ b5 = true ∧ b6 = true ∧ b7 = true ∧ b8 = true ∧ b9 = true ∧ b10 = true ∧ b11 = true ∧ b12 = true ∧ b13 = true ∧ b14 = true ∧ b15 = true ∧ b16 = true ∧ b17 = true ∧ b18 = true := by
        simp [Region.binds] at hi3
        simp only [hi3, and_self]
      obtain ⟨rfl, rfl, rfl, rfl, rfl, rfl, rfl, rfl, rfl, rfl, rfl, rfl, rfl, rfl, rfl, rfl, rfl, rfl, rfl⟩ := hd19
      refine wpOp_of rfl rfl ?_
      exact ⟨true, true, true, true, true, true, true, true, true, true, true, true, true, true, true, true, true, true, true, true, b20, rfl, rfl, hW⟩
    · obtain rfl : b20 = false := hi2
      have hd20 : b0 = true ∧ b1 = true ∧ b2 = true ∧ b3 = true ∧ b4 = true ∧ b5 = true ∧ b6 = true ∧ b7 = true ∧ b8 = true ∧ b9 = true ∧ b10 = true ∧ b11 = true ∧ b12 = true ∧ b13 = true ∧ b14 = true ∧ b15 = true ∧ b16 = true ∧ b17 = true ∧ b18 = true ∧ b19 = true := by
        simp [Region.binds] at hi3
        simp only [hi3, and_self]
      obtain ⟨rfl, rfl, rfl, rfl, rfl, rfl, rfl, rfl, rfl, rfl, rfl, rfl, rfl, rfl, rfl, rfl, rfl, rfl, rfl, rfl⟩ := hd20
      refine wpOp_of rfl rfl ?_
      exact ⟨true, true, true, true, true, true, true, true, true, true, true, true, true, true, true, true, true, true, true, true, true, rfl, rfl, hW⟩
  · rintro l a W ⟨b0, b1, b2, b3, b4, b5, b6, b7, b8, b9, b10, b11, b12, b13, b14, b15, b16, b17, b18, b19, b20, rfl, rfl, hW⟩ hr
    obtain rfl : b0 = true := ready_none hr (i := 0) (by decide) (by simp [Region.binds])
    obtain rfl : b1 = true := ready_none hr (i := 1) (by decide) (by simp [Region.binds])
    obtain rfl : b2 = true := ready_none hr (i := 2) (by decide) (by simp [Region.binds])
    obtain rfl : b3 = true := ready_none hr (i := 3) (by decide) (by simp [Region.binds])
    obtain rfl : b4 = true := ready_none hr (i := 4) (by decide) (by simp [Region.binds])
    obtain rfl : b5 = true := ready_none hr (i := 5) (by decide) (by simp [Region.binds])
    obtain rfl : b6 = true := ready_none hr (i := 6) (by decide) (by simp [Region.binds])
    obtain rfl : b7 = true := ready_none hr (i := 7) (by decide) (by simp [Region.binds])
    obtain rfl : b8 = true := ready_none hr (i := 8) (by decide) (by simp [Region.binds])
    obtain rfl : b9 = true := ready_none hr (i := 9) (by decide) (by simp [Region.binds])
    obtain rfl : b10 = true := ready_none hr (i := 10) (by decide) (by simp [Region.binds])
    obtain rfl : b11 = true := ready_none hr (i := 11) (by decide) (by simp [Region.binds])
    obtain rfl : b12 = true := ready_none hr (i := 12) (by decide) (by simp [Region.binds])
    obtain rfl : b13 = true := ready_none hr (i := 13) (by decide) (by simp [Region.binds])
    obtain rfl : b14 = true := ready_none hr (i := 14) (by decide) (by simp [Region.binds])
    obtain rfl : b15 = true := ready_none hr (i := 15) (by decide) (by simp [Region.binds])
    obtain rfl : b16 = true := ready_none hr (i := 16) (by decide) (by simp [Region.binds])
    obtain rfl : b17 = true := ready_none hr (i := 17) (by decide) (by simp [Region.binds])
    obtain rfl : b18 = true := ready_none hr (i := 18) (by decide) (by simp [Region.binds])
    obtain rfl : b19 = true := ready_none hr (i := 19) (by decide) (by simp [Region.binds])
    obtain rfl : b20 = true := ready_none hr (i := 20) (by decide) (by simp [Region.binds])
    rcases hW with ⟨h, -⟩ | ⟨-, D, ho, hb, ha⟩
    · cases h
    have hfin : OrdAt W w.heap.size [n0, n1, n2, n3, n4, n5] := by
      refine ⟨D, ho, fun s z => ?_⟩
      rw [ha s z, pick_all]
      · cases Lg.place [n0, n1, n2, n3, n4, n5] s <;> rfl
      · intro j _ hj
        match j, hj with
        | 0, _ => rfl
        | 1, _ => rfl
        | 2, _ => rfl
        | 3, _ => rfl
        | 4, _ => rfl
        | 5, _ => rfl
    clear ho ha hd h0 h1 h2 h3 h4 h5
    unfold ordAct
    simp only [cond_true]
    go_wp2_with fail
    go_ret
    exact ⟨_, rfl, Nat.le_refl _, hfin, hb⟩
  · exact ⟨false, false, false, false, false, false, false, false, false, false, false, false, false, false, false, false, false, false, false, false, false, rfl, rfl, .inl ⟨rfl, rfl, rfl, rfl, rfl, rfl, rfl, rfl⟩⟩
  · decide

theorem sign_any (a b : Int) (w : World) : Calls Tryz.prog 112 #[.int .i64 a, .int .i64 b] w fun e w' => e = .returned (.int .i64 (Lg.sgn a b)) ∧ w' = w := by
  unfold Lg.sgn
  by_cases h1 : a < b
  · have e1 : decide (a < b) = true := by simpa using h1
    rw [if_pos h1]
    clear h1
    go_enter Tryz.func112, Tryz.ntmps112
    go_wp2_with fail
    go_ret
    exact ⟨rfl, rfl⟩
  · have e1 : decide (a < b) = false := by simpa using h1
    rw [if_neg h1]
    by_cases h2 : b < a
    · have e2 : decide (b < a) = true := by simpa using h2
      rw [if_pos h2]
      clear h1 h2
      go_enter Tryz.func112, Tryz.ntmps112
      go_wp2_with fail
      go_ret
      exact ⟨rfl, rfl⟩
    · have e2 : decide (b < a) = false := by simpa using h2
      rw [if_neg h2]
      clear h1 h2
      go_enter Tryz.func112, Tryz.ntmps112
      go_wp2_with fail
      go_ret
      exact ⟨rfl, rfl⟩

theorem usage_any (w : World) : Calls Tryz.prog 55 #[] w fun e w' => ∃ v, e = .returned v ∧ BadAt w' w.heap.size v ([], 19) ∧ Below w.heap.size w w' := by
  go_enter Tryz.func55, Tryz.ntmps55
  go_wp2_with fail
  go_ret
  exact ⟨_, rfl, ⟨_, rfl, Nat.le_refl _, Blk.new _ _ _⟩, (Below.refl _ _).alloc (Nat.le_refl _) _⟩

end Go.Proofs.YtfgmmaahbngonaaGreatDoor

/-
  The walk of tree.leads, from, look, Stat at a path that has no parts. Conditions: the path is empty or one slash.
-/
namespace Go.Proofs.YtfgmmaahbngonaaGreatDoor
open Go.RowKit Go.Shelf
attribute [local go_sem] Oper.semAt_some

/-- A path without parts. -/
def NoParts (s : ByteArray) (n : Nat) : Prop := Lib.countB s ⟨#[47]⟩ + 1 = n ∧ Lib.splitB ⟨#[47]⟩ 0 (Lib.countB s ⟨#[47]⟩) s = List.replicate n ByteArray.empty ∧ s.size < 2 ∧ n ≤ 2 ∧ 1 ≤ n
theorem noParts_nil : NoParts ⟨#[]⟩ 1 := by unfold NoParts; decide +kernel
theorem noParts_slash : NoParts ⟨#[47]⟩ 2 := by unfold NoParts; decide +kernel

theorem i9 : (Tryz.prog.info? 9).map (fun i => (i.zero, i.size, i.bytes)) = some (some (.string ByteArray.empty), 1, 16) := by kernel_rfl

/-- strings.Split of such a path. -/
theorem split_none (s : ByteArray) (n : Nat) (hs : NoParts s n) (m : Int) (W : World) (hm : W.cell? ⟨4, 0, none⟩ = some (.int .i64 m)) :
    Calls Tryz.prog 117 #[.string s, .string ⟨#[47]⟩] W fun e w' => e = .returned (.slice (some ⟨W.heap.size, 0, none⟩) n n) ∧ Below W.heap.size W w' ∧ (∃ o, w' = W.alloc o) ∧ ∀ j, j < n → w'.cell? ⟨W.heap.size, j, none⟩ = some (.string ⟨#[]⟩) := by
  obtain ⟨h1, h2, h3, h4, h5⟩ := hs
  refine (Any.strings_Split Tryz.lays146 i9 s ⟨#[47]⟩ m W (by omega) hm (by decide)).mono ?_
  rintro e w1 ⟨rfl, rfl⟩
  rw [h2, h1]
  refine ⟨rfl, (Below.refl _ W).alloc (Nat.le_refl _) _, ⟨_, rfl⟩, ?_⟩
  intro j hj
  rw [World.cell?, heap_alloc_new]
  simp [hj]
  rfl

set_option maxRecDepth 100000 in
set_option maxHeartbeats 2000000 in
/-- The iterator over the parts: no round. -/
theorem parts1_calls (l Bn n : Nat) (s : ByteArray) (hs : NoParts s n) (J : World → Prop) (m : Int) (W : World) (hB : W.cell? ⟨Bn, 0, none⟩ = some (.string s)) (hm : W.cell? ⟨4, 0, none⟩ = some (.int .i64 m))
    (hJ : ∀ o, J (W.alloc o)) :
    Calls Tryz.prog 205 #[.func (.yield l) #[] #[], .pointer (some ⟨Bn, 0, none⟩)] W fun e W' => (∃ v, e = .returned v) ∧ J W' := by
  have c := split_none s n hs m W hm
  have hn2 : n ≤ 2 := hs.2.2.2.1
  clear hs
  go_enter Tryz.func205, Tryz.ntmps205
  go_wp2_with fail
  refine c.mono ?_
  rintro e w1 ⟨rfl, hb, ⟨o, ho⟩, hc⟩
  have H : J w1 := by rw [ho]; exact hJ o
  clear hJ ho o
  go_wp2_with fail
  go_loopw [8] (fun p wr => ∃ k : Nat, k ≤ n ∧ p = .int .i64 k ∧ wr = w1) (fun p _ => n - (intOf p).toNat)
  case atStart => exact ⟨0, Nat.zero_le _, rfl, rfl⟩
  case round =>
    obtain ⟨k, hk, rfl, rfl⟩ := hrel
    by_cases hlt : k < n
    · have hck := hc k hlt
      clear hc
      go_wp2_with fail
      exact ⟨⟨k + 1, by omega, by simp, trivial⟩, by simp [intOf]; omega⟩
    · obtain rfl : k = n := by omega
      go_wp2_with fail
      go_end0
      exact ⟨⟨_, rfl⟩, H⟩

/-- The iterator's contract: no round. -/
theorem parts1_stops (k n n₀ Bn : Nat) (s : ByteArray) (hs : NoParts s n) (m : Int) (w : World) (hB : w.cell? ⟨Bn, 0, none⟩ = some (.string s)) (hm : w.cell? ⟨4, 0, none⟩ = some (.int .i64 m)) :
    SeqStopsK Fence.wide k Tryz.prog 205 #[.pointer (some ⟨Bn, 0, none⟩)] (fun v : ByteArray => #[Value.string v]) (Below n₀) (fun xs => xs = []) (fun _ => False) 0 w := by
  intro l J Jx W hW hJ _ _ h0
  have hl1 : Bn < w.heap.size := World.block_lt_of_cell? _ _ hB
  have hl2 : 4 < w.heap.size := World.block_lt_of_cell? _ _ hm
  refine callsIn_wide.2 ((parts1_calls l Bn n s hs (J []) m W ((hW.cell (p := ⟨Bn, 0, none⟩) hl1).trans hB) ((hW.cell (p := ⟨4, 0, none⟩) hl2).trans hm) ?_).mono ?_)
  · intro o
    exact hJ _ _ _ none h0 (World.grownBy_alloc _ _ none) (fun r e => by cases e)
  · rintro e W' ⟨he, hj⟩
    exact ⟨he, .inl ⟨[], rfl, hj⟩⟩

theorem parts_any (s : ByteArray) (W : World) : Calls Tryz.prog 161 #[.string s] W fun e w' => e = .returned (.func (.func 205) #[] #[.pointer (some ⟨W.heap.size, 0, none⟩)]) ∧ w' = W.alloc (.cells #[.string s] 9) := by
  go_enter Tryz.func161, Tryz.ntmps161
  go_wp2_with fail
  go_ret
  exact ⟨rfl, rfl⟩

/-- A new cell. -/
theorem one_new (W : World) (v : Value) (t : TypeId) : (W.alloc (.cells #[v] t)).cell? ⟨W.heap.size, 0, none⟩ = some v ∧ (W.alloc (.cells #[v] t)).frozen? ⟨W.heap.size, 0, none⟩ = false := by
  constructor
  · rw [World.cell?, heap_alloc_new]; rfl
  · rw [World.frozen?, heap_alloc_new]; rfl

set_option maxRecDepth 100000 in
set_option maxHeartbeats 2000000 in
/-- leads, along a path of no parts: where one is. -/
theorem leads_none (t x : Option Addr) (s : ByteArray) (n : Nat) (hs : NoParts s n) (m : Int) (w : World) (hm : w.cell? ⟨4, 0, none⟩ = some (.int .i64 m)) :
    Calls Tryz.prog 122 #[.pointer t, .pointer x, .string s] w fun e w' => e = .returned (.tuple #[.pointer x, .int .i64 0]) ∧ Below w.heap.size w w' := by
  refine callsIn_wide.1 (callsIn_of_wp_marks (n := 3) Tryz.func122 rfl trivial ?_ rfl)
  simp only [Tryz.ntmps122, List.size_toArray, List.length_cons, List.length_nil, Nat.reduceAdd, Nat.reduceSub, Array.replicate_succ, Array.replicate_zero, List.push_toArray, List.append_toArray, List.nil_append, List.cons_append]
  gi_wp2_with (refine ⟨trivial, ?_⟩; gi_at_call 161; refine (callsIn_wide.2 (parts_any s _)).mono ?_; rintro e w' ⟨rfl, rfl⟩)
  have hx0 := one_new w (.pointer x) 132
  have hx1 := one_new (w.alloc (.cells #[.pointer x] 132)) (.pointer none) 132
  have hx2 := one_new ((w.alloc (.cells #[.pointer x] 132)).alloc (.cells #[.pointer none] 132)) (.int .i64 0) 71
  have hx3 := one_new (((w.alloc (.cells #[.pointer x] 132)).alloc (.cells #[.pointer none] 132)).alloc (.cells #[.int .i64 0] 71)) (.string s) 9
  simp only [World.size_alloc] at hx1 hx2 hx3
  have a0 := new_cell (new_cell (new_cell hx0.1 (.cells #[.pointer none] 132)) (.cells #[.int .i64 0] 71)) (.cells #[.string s] 9)
  have a1 := new_cell (new_cell hx1.1 (.cells #[.int .i64 0] 71)) (.cells #[.string s] 9)
  have b1 := new_frozen (new_cell hx1.1 (.cells #[.int .i64 0] 71)) (new_frozen hx1.1 hx1.2 (.cells #[.int .i64 0] 71)) (.cells #[.string s] 9)
  have a2 := new_cell hx2.1 (.cells #[.string s] 9)
  have b2 := new_frozen hx2.1 hx2.2 (.cells #[.string s] 9)
  have hB0 : Below w.heap.size w ((((w.alloc (.cells #[.pointer x] 132)).alloc (.cells #[.pointer none] 132)).alloc (.cells #[.int .i64 0] 71)).alloc (.cells #[.string s] 9)) := ((((Below.refl _ w).alloc (Nat.le_refl _) _).alloc (by simp) _).alloc (by simp; omega) _).alloc (by simp; omega) _
  have hlm : 4 < w.heap.size := World.block_lt_of_cell? _ _ hm
  have am := (hB0.cell (p := ⟨4, 0, none⟩) hlm).trans hm
  refine wpIn_rangeFunc_ownF rfl (by decide) (gf := 205) (lb := #[.pointer (some ⟨w.heap.size + 1 + 1 + 1, 0, none⟩)]) rfl trivial (enters_of Tryz.func205 (by kernel_rfl) rfl)
    (parts1_stops 2 n w.heap.size (w.heap.size + 1 + 1 + 1) s hs m _ hx3.1 am) belowK_t (belowK_b (by simp; omega)) (Below.refl _ _) (fun _ => rfl)
    (fun pre W => (W.cell? ⟨w.heap.size, 0, none⟩ = some (.pointer x) ∧ W.cell? ⟨w.heap.size + 1, 0, none⟩ = some (.pointer none) ∧ W.frozen? ⟨w.heap.size + 1, 0, none⟩ = false ∧ W.cell? ⟨w.heap.size + 1 + 1, 0, none⟩ = some (.int .i64 0) ∧ W.frozen? ⟨w.heap.size + 1 + 1, 0, none⟩ = false) ∧ Below w.heap.size w W)
    (fun _ _ _ => False)
    (OwnFrom.and (Own.from (fun s A B row hs hg hr => ⟨cell_kept hs.1 hg hr, cell_kept hs.2.1 hg hr, (frozen_kept hs.2.1 hg hr).trans hs.2.2.1, cell_kept hs.2.2.2.1 hg hr, (frozen_kept hs.2.2.2.1 hg hr).trans hs.2.2.2.2⟩) _) (ownFrom_below (Nat.le_refl _) (by simp; omega)))
    (fun _ _ _ _ _ hs _ _ => hs)
    ⟨⟨a0, a1, b1, a2, b2⟩, hB0⟩
    (fun v => { tmps := #[.pointer t, .pointer x, .string s, undef, .pointer (some ⟨w.heap.size, 0, none⟩), undef, .pointer (some ⟨w.heap.size + 1, 0, none⟩), .pointer (some ⟨w.heap.size + 1 + 1, 0, none⟩), .string v, undef, undef, .string s, .func (.func 205) #[] #[.pointer (some ⟨w.heap.size + 1 + 1 + 1, 0, none⟩)], .string v, undef, undef, undef, undef, undef, undef, undef, undef, undef, undef, undef, undef, undef, undef, undef, undef, undef, undef, undef, undef, undef, undef, undef, undef, undef, undef, undef, undef, undef, undef, undef, undef, undef], defers := [] }) ?assign ?body ?done ?stop
  case assign =>
    intro l v W K hK
    gi_wp2
    exact hK
  case body =>
    intro l pre v W _ hl
    exact absurd hl (Nat.not_lt_zero _)
  case done =>
    rintro D ys W hD rfl ⟨⟨c0, c1, d1, c2, d2⟩, hB⟩ hK
    gi_wp2
    have hb1 : (W.setCell ⟨w.heap.size + 1, 0, none⟩ (.pointer x)).cell? ⟨w.heap.size + 1 + 1, 0, none⟩ = some (.int .i64 0) := (World.cell?_of_block (Below.heap_setCell W ⟨w.heap.size + 1, 0, none⟩ _ (w.heap.size + 1 + 1) (by show w.heap.size + 1 + 1 ≠ w.heap.size + 1; omega))).trans c2
    have hK' := ((KeepsOthers.setCell W ⟨w.heap.size + 1, 0, none⟩ (.pointer x)).trans (KeepsOthers.setCell _ ⟨w.heap.size + 1 + 1, 0, none⟩ (.int .i64 0))).same D _ hK rfl
    refine ⟨by simp, .inl ⟨_, _, rfl, run_takeDeferred hK', ?_⟩⟩
    have hk5 := cell_kept ((World.cell?_of_block (Below.heap_setCell (W.setCell ⟨w.heap.size + 1, 0, none⟩ (.pointer x)) ⟨w.heap.size + 1 + 1, 0, none⟩ (.int .i64 0) (w.heap.size + 1) (by show w.heap.size + 1 ≠ w.heap.size + 1 + 1; omega))).trans (World.cell?_setCell_same' W ⟨w.heap.size + 1, 0, none⟩ (.pointer x) (by rw [c1]; rfl))) (grownBy_putObj' _ D (.deferred none)) (fun r e => by cases e; exact ⟨_, hK', rfl⟩)
    have hb5 := cell_kept (World.cell?_setCell_same' (W.setCell ⟨w.heap.size + 1, 0, none⟩ (.pointer x)) ⟨w.heap.size + 1 + 1, 0, none⟩ (.int .i64 0) (by rw [hb1]; rfl)) (grownBy_putObj' _ D (.deferred none)) (fun r e => by cases e; exact ⟨_, hK', rfl⟩)
    have hB2 := (hB.setCell (p := ⟨w.heap.size + 1, 0, none⟩) (by simp) (.pointer x)).setCell (p := ⟨w.heap.size + 1 + 1, 0, none⟩) (by simp; omega) (.int .i64 0)
    refine ⟨.tuple #[.pointer x, .int .i64 0], ?_, rfl, hB2.trans (belowK_b (w := w) (Nat.le_refl _) _ D _ _ (by simp at hD; omega) hK' rfl rfl)⟩
    simp [results, Tryz.results122, go_sem, hk5, hb5]
  case stop =>
    rintro D c pre W _ h _ _
    exact h.elim

/-! ## from, look, Stat -/
/-- The tree with the root alone: its root, a directory. -/
def RootAt (W : World) (t r : Nat) : Prop := W.cell? ⟨t, 0, none⟩ = some (.pointer (some ⟨r, 0, none⟩)) ∧ W.cell? ⟨r, 3, none⟩ = some (.bool true)

set_option maxRecDepth 100000 in
set_option maxHeartbeats 2000000 in
theorem from_root (t r : Nat) (m : Int) (w : World) (h : RootAt w t r) (hm : w.cell? ⟨4, 0, none⟩ = some (.int .i64 m)) :
    Calls Tryz.prog 121 #[.pointer (some ⟨t, 0, none⟩), .string ⟨#[]⟩, .string ⟨#[47]⟩] w fun e w' => e = .returned (.tuple #[.pointer (some ⟨r, 0, none⟩), .int .i64 0]) ∧ Below w.heap.size w w' := by
  obtain ⟨h0, h3⟩ := h
  have lt := World.block_lt_of_cell? _ _ h0
  have lr := World.block_lt_of_cell? _ _ h3
  have c := leads_none (some ⟨t, 0, none⟩) (some ⟨r, 0, none⟩) ⟨#[]⟩ 1 noParts_nil m w hm
  go_enter Tryz.func121, Tryz.ntmps121
  go_wp2_with fail
  refine c.mono ?_
  rintro e w1 ⟨rfl, hb⟩
  clear c
  have k0 := (hb.cell (p := ⟨t, 0, none⟩) lt).trans h0
  have k3 := (hb.cell (p := ⟨r, 3, none⟩) lr).trans h3
  go_wp2_with fail
  refine bodyPost_ret (results_tmp2 rfl _ _ _) rfl ?_
  exact ⟨rfl, hb⟩

set_option maxRecDepth 100000 in
set_option maxHeartbeats 2000000 in
theorem look_root (t r : Nat) (m : Int) (w : World) (h : RootAt w t r) (hm : w.cell? ⟨4, 0, none⟩ = some (.int .i64 m)) :
    Calls Tryz.prog 72 #[.pointer (some ⟨t, 0, none⟩), .string ⟨#[]⟩, .string ⟨#[47]⟩] w fun e w' => e = .returned (.tuple #[.pointer (some ⟨r, 0, none⟩), .int .i64 0]) ∧ Below w.heap.size w w' := by
  have c := from_root t r m w h hm
  obtain ⟨h0, h3⟩ := h
  have lt := World.block_lt_of_cell? _ _ h0
  have lr := World.block_lt_of_cell? _ _ h3
  have lm := World.block_lt_of_cell? _ _ hm
  have hsfx : ∀ w : World, Calls Tryz.prog 123 #[.string ⟨#[47]⟩, .string ⟨#[47]⟩] w fun e w' => e = .returned (.bool true) ∧ w' = w := fun w => (Any.strings_HasSuffix Tryz.lays100 ⟨#[47]⟩ ⟨#[47]⟩ w (by decide)).mono fun e w' h => h
  go_enter Tryz.func72, Tryz.ntmps72
  go_wp2_with fail
  refine c.mono ?_
  rintro e w1 ⟨rfl, hb⟩
  clear c
  have k0 := (hb.cell (p := ⟨t, 0, none⟩) lt).trans h0
  have k3 := (hb.cell (p := ⟨r, 3, none⟩) lr).trans h3
  have km := (hb.cell (p := ⟨4, 0, none⟩) lm).trans hm
  go_wp2_with fail
  refine (leads_none (some ⟨t, 0, none⟩) (some ⟨r, 0, none⟩) ⟨#[47]⟩ 2 noParts_slash m w1 km).mono ?_
  rintro e w2 ⟨rfl, hb2⟩
  have hb3 := hb2.mono hb.size
  have k3 := (hb3.cell (p := ⟨r, 3, none⟩) lr).trans k3
  go_wp2_with fail
  refine (hsfx w2).mono ?_
  rintro e w3 ⟨rfl, rfl⟩
  go_wp2_with fail
  refine bodyPost_ret (results_tmp2 rfl _ _ _) rfl ?_
  exact ⟨rfl, hb.trans hb3⟩

end Go.Proofs.YtfgmmaahbngonaaGreatDoor

/-
  The walk of tree.Stat at the root. Condition: the tree has a root that is a directory.
-/
namespace Go.Proofs.YtfgmmaahbngonaaGreatDoor
open Go.RowKit

/-- What is told of the root. -/
def rootStat (W : World) (r : Nat) : Prop := ∃ mode tick ino : Int, W.cell? ⟨r, 0, none⟩ = some (.int .i64 ino) ∧ W.cell? ⟨r, 1, none⟩ = some (.int .i64 mode) ∧ W.cell? ⟨r, 2, none⟩ = some (.int .i64 tick) ∧ W.cell? ⟨r, 4, none⟩ = some (.slice none 0 0)

set_option maxRecDepth 100000 in
set_option maxHeartbeats 2000000 in
theorem stat_root (t r : Nat) (m : Int) (w : World) (h : RootAt w t r) (hr : rootStat w r) (hm : w.cell? ⟨4, 0, none⟩ = some (.int .i64 m)) :
    Calls Tryz.prog 41 #[.pointer (some ⟨t, 0, none⟩), .string ⟨#[]⟩, .string ⟨#[47]⟩] w fun e w' => (∃ i md tk sz lk : Int, e = .returned (.tuple #[.agg #[.int .i64 i, .bool true, .int .i64 md, .int .i64 tk, .int .i64 sz, .int .i64 lk], .int .i64 0])) ∧ Below w.heap.size w w' := by
  have c := fun o => look_root t r m (w.alloc o) ⟨new_cell h.1 o, new_cell h.2 o⟩ (new_cell hm o)
  obtain ⟨h0, h3⟩ := h
  obtain ⟨mode, tick, ino, q0, q1, q2, q4⟩ := hr
  have lr := World.block_lt_of_cell? _ _ h3
  go_enter Tryz.func41, Tryz.ntmps41
  go_wp2_with fail
  refine (c _).mono ?_
  rintro e w1 ⟨rfl, hb⟩
  clear c
  have hb1 := below_new hb
  have k0 := (hb1.cell (p := ⟨r, 0, none⟩) lr).trans q0
  have k1 := (hb1.cell (p := ⟨r, 1, none⟩) lr).trans q1
  have k2 := (hb1.cell (p := ⟨r, 2, none⟩) lr).trans q2
  have k3 := (hb1.cell (p := ⟨r, 3, none⟩) lr).trans h3
  have k4 := (hb1.cell (p := ⟨r, 4, none⟩) lr).trans q4
  have hn := cells_new w #[.int .i64 0, .bool false, .int .i64 0, .int .i64 0, .int .i64 0, .int .i64 0] 94
  clear q0 q1 q2 q4 h0 h3 hm
  go_wp2_with fail
  have a0 := new_cell k0 (.cells #[.int .i64 0, .bool false, .int .i64 0, .int .i64 0, .int .i64 0, .int .i64 0] 94)
  have a1 := new_cell k1 (.cells #[.int .i64 0, .bool false, .int .i64 0, .int .i64 0, .int .i64 0, .int .i64 0] 94)
  have a2 := new_cell k2 (.cells #[.int .i64 0, .bool false, .int .i64 0, .int .i64 0, .int .i64 0, .int .i64 0] 94)
  have a3 := new_cell k3 (.cells #[.int .i64 0, .bool false, .int .i64 0, .int .i64 0, .int .i64 0, .int .i64 0] 94)
  have a4 := new_cell k4 (.cells #[.int .i64 0, .bool false, .int .i64 0, .int .i64 0, .int .i64 0, .int .i64 0] 94)
  go_region
  obtain ⟨w2, hw2⟩ : ∃ w2, (w1.alloc (.cells #[.int .i64 ino, .bool true, .int .i64 mode, .int .i64 tick, .int .i64 0, .int .i64 1] 94)).drew = w2 := ⟨_, rfl⟩
  rw [hw2]
  have b3 : w2.cell? ⟨r, 3, none⟩ = some (.bool true) := by rw [← hw2]; exact new_cell k3 _
  have hblk2 : Blk w2 w1.heap.size #[.int .i64 ino, .bool true, .int .i64 mode, .int .i64 tick, .int .i64 0, .int .i64 1] 94 := by
    rw [← hw2]
    exact Blk.drew (Blk.new w1 _ _)
  have g0 := hblk2.cell 0 rfl
  have g1 := hblk2.cell 1 rfl
  have g2 := hblk2.cell 2 rfl
  have g3 := hblk2.cell 3 rfl
  have g4 := hblk2.cell 4 rfl
  have g5 := hblk2.cell 5 rfl
  have hlt : w.heap.size < w1.heap.size := by have := hb.size; simp at this; omega
  have hblk : Blk w2 w.heap.size #[.int .i64 0, .bool false, .int .i64 0, .int .i64 0, .int .i64 0, .int .i64 0] 94 := by
    rw [← hw2]
    exact Blk.drew (Blk.alloc ((Blk.new w _ _).keep hb (by simp)) _)
  have hb2 : Below w.heap.size w w2 := by
    rw [← hw2]
    exact (hb1.alloc hb1.size _).drew
  have e0 := hblk.cell 0 rfl
  have f0 := hblk.free 0
  have e1 := hblk.cell 1 rfl
  have f1 := hblk.free 1
  have e2 := hblk.cell 2 rfl
  have f2 := hblk.free 2
  have e3 := hblk.cell 3 rfl
  have f3 := hblk.free 3
  have e4 := hblk.cell 4 rfl
  have f4 := hblk.free 4
  have e5 := hblk.cell 5 rfl
  have f5 := hblk.free 5
  have HB := Lib.hid hblk
  clear hblk hblk2 hw2 hn a0 a1 a2 a3 a4 k0 k1 k2 k3 k4
  go_wp2_with fail
  have HS := ((((((HB.out.set 0 (.int .i64 ino)).set 1 (.bool true)).set 2 (.int .i64 mode)).set 3 (.int .i64 tick)).set 4 (.int .i64 0)).set 5 (.int .i64 1))
  have r0 := HS.cell 0 rfl
  have r1 := HS.cell 1 rfl
  have r2 := HS.cell 2 rfl
  have r3 := HS.cell 3 rfl
  have r4 := HS.cell 4 rfl
  have r5 := HS.cell 5 rfl
  refine bodyPost_ret (v := .tuple #[.agg #[.int .i64 ino, .bool true, .int .i64 mode, .int .i64 tick, .int .i64 0, .int .i64 1], .int .i64 0]) ?_ rfl ⟨⟨ino, mode, tick, 0, 1, rfl⟩, ?_⟩
  · simp [results, Tryz.results41, go_sem, r0, r1, r2, r3, r4, r5]
  · refine hb2.trans ?_
    exact ((((((Below.refl w.heap.size w2).setCell (p := ⟨w.heap.size, 0, none⟩) (Nat.le_refl _) _).setCell (p := ⟨w.heap.size, 1, none⟩) (Nat.le_refl _) _).setCell (p := ⟨w.heap.size, 2, none⟩) (Nat.le_refl _) _).setCell (p := ⟨w.heap.size, 3, none⟩) (Nat.le_refl _) _).setCell (p := ⟨w.heap.size, 4, none⟩) (Nat.le_refl _) _).setCell (p := ⟨w.heap.size, 5, none⟩) (Nat.le_refl _) _

end Go.Proofs.YtfgmmaahbngonaaGreatDoor
