/-
  The walks of classes, named. Condition: what is told lies in memory.
-/
import Derived.Test.YthdkbbkkijdhfaaGreatDoorW4
import Derived.Maps.OwnSet
import Derived.ChangeMaps
import Derived.Deep.QuietTactic
import Derived.BigQuiet
import Derived.Shelf.Strings.Prefix
namespace Go.Proofs.YthdkbbkkijdhfaaGreatDoor
open Go.RowKit Go.Shelf Go.Maps

/-- The function of a class. -/
def clsFn (n : Nat) : Value := .agg #[.func (.func n) #[] #[]]
/-- How a class reads in the map. -/
def clsList : List Value → Option (DataW Unit × List MemPlace)
  | [.func (.func n) a b] => if a = #[] ∧ b = #[] then some (.lit (.int .i64 n), []) else none
  | [.nilFunc] => some (.lit (.int .i64 (-1)), [])
  | _ => none
def clsElem : Value → Option (DataW Unit × List MemPlace)
  | .agg cs => clsList cs.toList
  | _ => none

theorem clsElem_fn (n : Nat) : clsElem (clsFn n) = some (.lit (.int .i64 n), []) := rfl
theorem clsElem_inv {v : Value} {n : Nat} {ps : List MemPlace} (h : clsElem v = some (.lit (.int .i64 n), ps)) : v = clsFn n := by
  unfold clsElem at h
  split at h
  · rename_i cs
    unfold clsList at h
    split at h
    · rename_i e
      split at h
      · rename_i hs
        obtain ⟨rfl, rfl⟩ := hs
        simp only [Option.some.injEq, Prod.mk.injEq, DataW.lit.injEq, Lit.int.injEq, true_and] at h
        obtain ⟨h1, -⟩ := h
        obtain rfl := Int.ofNat.inj h1
        exact congrArg Value.agg (Array.toList_inj.1 e)
      · cases h
    · simp only [Option.some.injEq, Prod.mk.injEq, DataW.lit.injEq, Lit.int.injEq, true_and] at h
      omega
    · cases h
  · cases h

theorem wpList_insert_own {H : Type} {P : Program} (w : World) {ops : Array Oper} {rest : List Oper} {o : Oper} {a : Act} {Q : Exit → Act → World → Prop}
    (hg : o.guard = none) (m x v : Operand) (t : TypeId) (hop : o.op = Op.insert t m x v)
    (k e : TypeId) (K : Keyed P k) (ht : P.underlying t = some (.map k e)) (R : Value → Option (DataW H × List MemPlace)) (b n : Nat) (D : DataW H)
    (hm : a.eval m = .map (some b)) (hown : w.ownsMap P k R b n D) (hn : n < maxLen) (key val : Value) (kl : Lit) (hx : a.eval x = key) (hv : a.eval v = val) (hkey : keyOf P k key = some kl)
    (d : DataW H) (ps : List MemPlace) (hval : R val = some (d, ps))
    (hK : ∀ w', w'.ownsMap P k R b (n + 1) (D.put kl d) → w.grownBy w' (some b) → wpList P ops Q rest (a.put o.dst undef) w') :
    wpList P ops Q (o :: rest) a w := by
  refine wpList_plain hg fun K' hK' => ?_
  obtain ⟨w', hrun, r1, r2⟩ := hown.update K ht hn hkey hval
  unfold Oper.wp
  simp [execOp, hop, hm, hx, hv, hrun, Result.andThen]
  exact hK' _ _ (hK w' r1 r2)

/-- The classes, as the map reads. -/
def clsData : DataW Unit :=
  let put (n : List UInt8) (f : Nat) (D : DataW Unit) : DataW Unit := D.put (.string n) (.lit (.int .i64 f))
  put [120, 100, 105, 103, 105, 116] 142 <| put [112, 117, 110, 99, 116] 141 <|
  put [112, 114, 105, 110, 116] 140 <| put [99, 110, 116, 114, 108] 139 <|
  put [115, 112, 97, 99, 101] 138 <| put [98, 108, 97, 110, 107] 137 <|
  put [108, 111, 119, 101, 114] 136 <| put [117, 112, 112, 101, 114] 135 <|
  put [103, 114, 97, 112, 104] 134 <| put [97, 108, 110, 117, 109] 103 <|
  put [100, 105, 103, 105, 116] 117 <| put [97, 108, 112, 104, 97] 116 <| .map []

theorem kStr : Keyed Tryz.prog 9 := Maps.string_keyed Tryz.underlying9

theorem grown_below {b B : Nat} {w w' : World} (h : w.grownBy w' (some b)) (hb : B ≤ b) (hw : B ≤ w.heap.size) : Below B w w' :=
  ⟨h.os, h.tape, h.output, h.size, fun k hk => h.block k (by omega) (by simp; omega)⟩

set_option maxHeartbeats 1600000 in
set_option maxRecDepth 100000 in
theorem classes_any (w : World) : Calls Tryz.prog 126 #[] w fun e w' => e = .returned (.map (some w.heap.size)) ∧ w'.ownsMap Tryz.prog 9 clsElem w.heap.size 12 clsData ∧ Below w.heap.size w w' := by
  have hmm := @run_makeMap Tryz.prog
  have st := fun (W : World) (n : Nat) (D : DataW Unit) (h : W.ownsMap Tryz.prog 9 clsElem w.heap.size n D) (hn : n < maxLen) (key : List UInt8) (f : Nat) (hk : key.length ≤ maxLen) =>
    World.ownsMap.update h kStr (t := 164) Tryz.underlying164 hn (key := .string ⟨key.toArray⟩) (val := .agg #[.func (.func f) #[] #[]]) (kl := .string key) (Go.WideMaps.keyOf_string_mk Tryz.underlying9 (by simpa [ByteArray.size] using hk)) (clsElem_fn f)
  have o0 := World.ownsMap_made w Tryz.prog 9 clsElem
  obtain ⟨w1, e1, o1, g1⟩ := st _ 0 _ o0 (by decide) [97, 108, 112, 104, 97] 116 (by decide)
  obtain ⟨w2, e2, o2, g2⟩ := st _ 1 _ o1 (by decide) [100, 105, 103, 105, 116] 117 (by decide)
  obtain ⟨w3, e3, o3, g3⟩ := st _ 2 _ o2 (by decide) [97, 108, 110, 117, 109] 103 (by decide)
  obtain ⟨w4, e4, o4, g4⟩ := st _ 3 _ o3 (by decide) [103, 114, 97, 112, 104] 134 (by decide)
  obtain ⟨w5, e5, o5, g5⟩ := st _ 4 _ o4 (by decide) [117, 112, 112, 101, 114] 135 (by decide)
  obtain ⟨w6, e6, o6, g6⟩ := st _ 5 _ o5 (by decide) [108, 111, 119, 101, 114] 136 (by decide)
  obtain ⟨w7, e7, o7, g7⟩ := st _ 6 _ o6 (by decide) [98, 108, 97, 110, 107] 137 (by decide)
  obtain ⟨w8, e8, o8, g8⟩ := st _ 7 _ o7 (by decide) [115, 112, 97, 99, 101] 138 (by decide)
  obtain ⟨w9, e9, o9, g9⟩ := st _ 8 _ o8 (by decide) [99, 110, 116, 114, 108] 139 (by decide)
  obtain ⟨w10, e10, o10, g10⟩ := st _ 9 _ o9 (by decide) [112, 114, 105, 110, 116] 140 (by decide)
  obtain ⟨w11, e11, o11, g11⟩ := st _ 10 _ o10 (by decide) [112, 117, 110, 99, 116] 141 (by decide)
  obtain ⟨w12, e12, o12, g12⟩ := st _ 11 _ o11 (by decide) [120, 100, 105, 103, 105, 116] 142 (by decide)
  have HO := Lib.hid o12
  have HB : Hid (Below w.heap.size w w12) := by
    have h0 : Below w.heap.size w (w.alloc (.map #[] 0)) := (Below.refl _ _).alloc (Nat.le_refl _) _
    show Below _ _ _
    have t := fun {W W' : World} (h : Below w.heap.size w W) (g : W.grownBy W' (some w.heap.size)) => h.trans (grown_below g (Nat.le_refl _) h.size)
    exact t (t (t (t (t (t (t (t (t (t (t (t h0 g1) g2) g3) g4) g5) g6) g7) g8) g9) g10) g11) g12
  clear st o0 o1 g1 o2 g2 o3 g3 o4 g4 o5 g5 o6 g6 o7 g7 o8 g8 o9 g9 o10 g10 o11 g11 o12 g12
  go_enter Tryz.func126, Tryz.ntmps126
  go_wp2_with fail
  go_ret
  exact ⟨rfl, HO.out, HB.out⟩

/-- What a look-up among the classes finds. -/
def ClsLook (name : List UInt8) (z : DataW Unit) : Option Rx.Has → Prop
  | none => Maps.has clsData (.string name) = false ∧ clsData.atKey (.string name) z = z
  | some k => Maps.has clsData (.string name) = true ∧ ∃ n : Nat, clsData.atKey (.string name) z = .lit (.int .i64 n) ∧ (∀ args w, (callFunc n args).run Tryz.prog w = .ok (.enter n args) w) ∧ ∀ (c : UInt8) (w : World), Calls Tryz.prog n #[.int .u8 c.toNat] w fun e w' => e = .returned (.bool (k c)) ∧ w = w'

set_option maxRecDepth 100000 in
theorem cls_look (name : List UInt8) (z : DataW Unit) : ClsLook name z (Rx.classOf name) := by
  by_cases h0 : name = [97, 108, 112, 104, 97]
  · subst h0
    exact ⟨rfl, 116, rfl, fun args w => rfl, fun c w => letter_any c w⟩
  by_cases h1 : name = [100, 105, 103, 105, 116]
  · subst h1
    exact ⟨rfl, 117, rfl, fun args w => rfl, fun c w => digit_any c w⟩
  by_cases h2 : name = [97, 108, 110, 117, 109]
  · subst h2
    exact ⟨rfl, 103, rfl, fun args w => rfl, fun c w => alnum_any c w⟩
  by_cases h3 : name = [103, 114, 97, 112, 104]
  · subst h3
    exact ⟨rfl, 134, rfl, fun args w => rfl, fun c w => graph_any c w⟩
  by_cases h4 : name = [117, 112, 112, 101, 114]
  · subst h4
    exact ⟨rfl, 135, rfl, fun args w => rfl, fun c w => upper_any c w⟩
  by_cases h5 : name = [108, 111, 119, 101, 114]
  · subst h5
    exact ⟨rfl, 136, rfl, fun args w => rfl, fun c w => lower_any c w⟩
  by_cases h6 : name = [98, 108, 97, 110, 107]
  · subst h6
    exact ⟨rfl, 137, rfl, fun args w => rfl, fun c w => blank_any c w⟩
  by_cases h7 : name = [115, 112, 97, 99, 101]
  · subst h7
    exact ⟨rfl, 138, rfl, fun args w => rfl, fun c w => space_any c w⟩
  by_cases h8 : name = [99, 110, 116, 114, 108]
  · subst h8
    exact ⟨rfl, 139, rfl, fun args w => rfl, fun c w => cntrl_any c w⟩
  by_cases h9 : name = [112, 114, 105, 110, 116]
  · subst h9
    exact ⟨rfl, 140, rfl, fun args w => rfl, fun c w => print_any c w⟩
  by_cases h10 : name = [112, 117, 110, 99, 116]
  · subst h10
    exact ⟨rfl, 141, rfl, fun args w => rfl, fun c w => punct_any c w⟩
  by_cases h11 : name = [120, 100, 105, 103, 105, 116]
  · subst h11
    exact ⟨rfl, 142, rfl, fun args w => rfl, fun c w => xdigit_any c w⟩
  have e : Rx.classOf name = none := by
    unfold Rx.classOf
    rw [if_neg h0, if_neg h1, if_neg h2, if_neg h3, if_neg h4, if_neg h5, if_neg h6, if_neg h7, if_neg h8, if_neg h9, if_neg h10, if_neg h11]
  rw [e]
  have ne : ∀ {l : List UInt8}, ¬ name = l → Lit.string name ≠ Lit.string l := fun h h2 => h (Lit.string.inj h2)
  show Maps.has clsData (.string name) = false ∧ clsData.atKey (.string name) z = z
  unfold clsData
  simp only []
  constructor
  · rw [Maps.has_put_other (ne h11), Maps.has_put_other (ne h10), Maps.has_put_other (ne h9), Maps.has_put_other (ne h8), Maps.has_put_other (ne h7), Maps.has_put_other (ne h6), Maps.has_put_other (ne h5), Maps.has_put_other (ne h4), Maps.has_put_other (ne h3), Maps.has_put_other (ne h2), Maps.has_put_other (ne h1), Maps.has_put_other (ne h0)]
    rfl
  · rw [Maps.atKey_put_other (ne h11), Maps.atKey_put_other (ne h10), Maps.atKey_put_other (ne h9), Maps.atKey_put_other (ne h8), Maps.atKey_put_other (ne h7), Maps.atKey_put_other (ne h6), Maps.atKey_put_other (ne h5), Maps.atKey_put_other (ne h4), Maps.atKey_put_other (ne h3), Maps.atKey_put_other (ne h2), Maps.atKey_put_other (ne h1), Maps.atKey_put_other (ne h0)]
    rfl

theorem clsElem_nil {v : Value} {ps : List MemPlace} (h : clsElem v = some (.lit (.int .i64 (-1)), ps)) : v = .agg #[.nilFunc] := by
  unfold clsElem at h
  split at h
  · rename_i cs
    unfold clsList at h
    split at h
    · split at h
      · simp only [Option.some.injEq, Prod.mk.injEq, DataW.lit.injEq, Lit.int.injEq, true_and] at h
        omega
      · cases h
    · rename_i e
      exact congrArg Value.agg (Array.toList_inj.1 e)
    · cases h
  · cases h

end Go.Proofs.YthdkbbkkijdhfaaGreatDoor
