/-
  The walks of strings.ContainsAny, of Plain, of WordNames. Condition: lengths.
-/
import Derived.Test.YtfoehfehnmhhmaaGreatDoorW43
namespace Go.Proofs.YtfoehfehnmhhmaaGreatDoor
open Go.RowKit Go.Shelf Go.Maps

theorem any_four (l : List UInt8) : decide ((0 : Int) ≤ Lib.indexAny l fourL) = l.any signB := by
  induction l with
  | nil => rfl
  | cons b r ih =>
    have hb : fourL.contains b = signB b := by
      rw [Bool.eq_iff_iff]; simp [fourL, signB, or_assoc]
    rw [Lib.indexAny, List.any_cons, hb]
    cases hs : signB b with
    | true => simp
    | false =>
      rw [Bool.false_or, ← ih]
      have hge := Lib.indexAny_ge fourL r
      simp only [Bool.false_eq_true, if_false]
      by_cases h : Lib.indexAny r fourL = -1
      · simp [h]
      · have h2 : (Lib.indexAny r fourL == -1) = false := beq_eq_false_iff_ne.2 h
        rw [h2]
        simp only [Bool.false_eq_true, if_false]
        rw [decide_eq_decide]
        omega

theorem info_set : (Tryz.prog.info? 98).map (fun i => (i.zero, i.size)) = some (some (.agg (Array.replicate 256 (.bool false))), 256) := by kernel_rfl

set_option maxRecDepth 100000 in
theorem containsAny_any (w : World) (x : Wd.Bytes) (hx : x.length < 1073741824) :
    Calls Tryz.prog 28 #[.string ⟨x.toArray⟩, .string ⟨#[39, 34, 92, 36]⟩] w fun e w' => e = .returned (.bool (x.any signB)) ∧ Below w.heap.size w w' := by
  have hi : Calls Tryz.prog 49 #[.string ⟨x.toArray⟩, .string ⟨#[39, 34, 92, 36]⟩] w fun e w' => e = .returned (.int .i64 (Lib.indexAny x fourL)) ∧ Below w.heap.size w w' := by
    by_cases h8 : x.length ≤ 8
    · exact indexAny_short w ⟨x.toArray⟩ h8
    · refine (Any.strings_IndexAny_long Tryz.lays153 (zero_of_info info_set).1 (zero_of_info info_set).2 ⟨x.toArray⟩ ⟨#[39, 34, 92, 36]⟩ w (by decide) (by show 8 < x.length; omega) (by show x.length < _; omega) (by decide) ?_).mono ?_
      · intro j b hb
        have hm : b ∈ fourL := List.mem_of_getElem? hb
        revert hm
        simp only [fourL, List.mem_cons, List.not_mem_nil, or_false]
        rintro (rfl | rfl | rfl | rfl) <;> decide
      · rintro e w' ⟨rfl, rfl⟩
        exact ⟨rfl, ((Below.refl _ _).alloc (Nat.le_refl _) _).alloc (by simp) _⟩
  have HA := Lib.hid (any_four x)
  generalize x.any signB = R at *
  generalize Lib.indexAny x fourL = I at *
  cases R with
  | true =>
    have h0 : (0 : Int) ≤ I := of_decide_eq_true HA.out
    go_enter Tryz.func28, Tryz.ntmps28
    go_wp2_with fail
    refine hi.mono ?_
    rintro e w1 ⟨rfl, hb⟩
    have HB := Lib.hid hb
    clear hi hb
    go_wp2_with fail
    go_ret
    exact ⟨by simp, HB.out⟩
  | false =>
    have h0 : ¬ (0 : Int) ≤ I := of_decide_eq_false HA.out
    go_enter Tryz.func28, Tryz.ntmps28
    go_wp2_with fail
    refine hi.mono ?_
    rintro e w1 ⟨rfl, hb⟩
    have HB := Lib.hid hb
    clear hi hb
    go_wp2_with fail
    go_ret
    exact ⟨by simp [h0], HB.out⟩

set_option maxRecDepth 100000 in
theorem Plain_any (w : World) (x s : Wd.Bytes) (hx : x.length < 1073741824) :
    Calls Tryz.prog 14 #[.string ⟨x.toArray⟩, .string ⟨s.toArray⟩] w fun e w' => e = .returned (.bool (Wd.plainly x s)) ∧ Below w.heap.size w w' := by
  have HP : Hid (Wd.plainly x s = (x == s && !(x.any signB))) := rfl
  generalize Wd.plainly x s = R at *
  by_cases h : x = s
  · subst h
    have hca := containsAny_any w x hx
    have HR : Hid (R = !(x.any signB)) := by show _ = _; rw [HP.out]; simp
    generalize x.any signB = b at *
    go_enter Tryz.func14, Tryz.ntmps14
    go_wp2_with fail
    refine hca.mono ?_
    rintro e w1 ⟨rfl, hb⟩
    have HB := Lib.hid hb
    clear hca hb
    go_wp2_with fail
    go_ret
    exact ⟨by rw [HR.out]; rfl, HB.out⟩
  · have h2 : (x == s) = false := beq_eq_false_iff_ne.2 h
    have HR : Hid (R = false) := by show _ = _; rw [HP.out, h2]; rfl
    go_enter Tryz.func14, Tryz.ntmps14
    go_wp2_with fail
    go_ret
    exact ⟨by rw [HR.out]; rfl, Below.refl _ _⟩

/-- What was set is there. -/
theorem get_set (l : List Wd.Bytes) (n val : Wd.Bytes) : getV (Wd.set l n val) n = (val, true) := by
  have hpre : Wd.pre (n ++ [61]) (n ++ [61] ++ val) = true := List.isPrefixOf_iff_prefix.2 (List.prefix_append _ _)
  have hdrop : (n ++ [61] ++ val).drop (n.length + 1) = val := by
    have : (n ++ [61]).length = n.length + 1 := by simp
    rw [← this, List.drop_left]
  cases hp : Wd.place l n with
  | some i =>
    obtain ⟨hi, -⟩ := place_some hp
    rw [set_some hp]
    have hfirst : ∀ j, j < i → Wd.pre (n ++ [61]) (l.getD j []) = false := by
      intro j hj
      have := List.findIdx?_eq_some_iff_getElem.1 hp
      obtain ⟨h1, h2, h3⟩ := this
      have := h3 j hj
      rw [List.getD_eq_getElem?_getD, List.getElem?_eq_getElem (by omega)]
      simpa using this
    have hplace : Wd.place (l.set i (n ++ [61] ++ val)) n = some i := by
      refine place_at (by simpa using hi) (fun j hj => ?_) ?_
      · have := hfirst j hj
        rw [List.getD_eq_getElem?_getD] at this ⊢
        rw [List.getElem?_set_ne (by omega)]; exact this
      · rw [List.getD_eq_getElem?_getD, List.getElem?_set_self hi]; exact hpre
    rw [getV_some hplace, List.getD_eq_getElem?_getD, List.getElem?_set_self hi]
    show ((n ++ [61] ++ val).drop (n.length + 1), true) = _
    rw [hdrop]
  | none =>
    rw [set_none hp]
    have hplace : Wd.place (l ++ [n ++ [61] ++ val]) n = some l.length := by
      refine place_at (by simp) (fun j hj => ?_) ?_
      · have := List.findIdx?_eq_none_iff.1 hp
        rw [List.getD_eq_getElem?_getD, List.getElem?_append_left hj, List.getElem?_eq_getElem hj]
        have := this l[j] (List.getElem_mem _)
        simpa using this
      · rw [List.getD_eq_getElem?_getD, List.getElem?_append_right (Nat.le_refl _)]
        simpa using hpre
    rw [getV_some hplace, List.getD_eq_getElem?_getD, List.getElem?_append_right (Nat.le_refl _)]
    show ((([n ++ [61] ++ val] : List Wd.Bytes)[l.length - l.length]?.getD []).drop (n.length + 1), true) = _
    rw [Nat.sub_self]
    show ((n ++ [61] ++ val).drop (n.length + 1), true) = _
    rw [hdrop]

end Go.Proofs.YtfoehfehnmhhmaaGreatDoor
