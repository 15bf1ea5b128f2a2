/-
  The plain law of OrderOrders: the comparison is a total preorder, and only what is the same compares as the same. No condition, no program in sight.
-/
import Derived.Test.YtnhopkjichgckaaDoorSpec
namespace Go.Proofs.YtnhopkjichgckaaDoor.Ord
open Go

/-- A comparison: the other way round it answers the other way round; and it is transitive. -/
structure Pre {α : Type} (c : α → α → Int) : Prop where
  anti : ∀ x y, c y x = - c x y
  trans : ∀ x y z, c x y ≤ 0 → c y z ≤ 0 → c x z ≤ 0

theorem Pre.self {α : Type} {c : α → α → Int} (h : Pre c) (x : α) : c x x = 0 := by have := h.anti x x; omega
theorem Pre.zero {α : Type} {c : α → α → Int} (h : Pre c) {x y z : α} (h1 : c x y = 0) (h2 : c y z = 0) : c x z = 0 := by
  have a1 := h.trans x y z (by omega) (by omega)
  have a2 := h.trans z y x (by have := h.anti y z; omega) (by have := h.anti x y; omega)
  have := h.anti x z
  omega
theorem Pre.left {α : Type} {c : α → α → Int} (h : Pre c) {x y z : α} (h1 : c x y < 0) (h2 : c y z ≤ 0) : c x z < 0 := by
  have a1 := h.trans x y z (by omega) h2
  rcases Int.lt_or_eq_of_le a1 with h3 | h3
  · exact h3
  · have a2 := h.trans y z x h2 (by have := h.anti x z; omega)
    have := h.anti x y
    omega
theorem Pre.right {α : Type} {c : α → α → Int} (h : Pre c) {x y z : α} (h1 : c x y ≤ 0) (h2 : c y z < 0) : c x z < 0 := by
  have a1 := h.trans x y z h1 (by omega)
  rcases Int.lt_or_eq_of_le a1 with h3 | h3
  · exact h3
  · have a2 := h.trans z x y (by have := h.anti x z; omega) h1
    have := h.anti y z
    omega

theorem Pre.neg {α : Type} {c : α → α → Int} (h : Pre c) : Pre fun x y => - c x y :=
  ⟨fun x y => by show - c y x = - - c x y; rw [h.anti x y], fun x y z h1 h2 => by
    have := h.trans z y x (by have := h.anti y z; omega) (by have := h.anti x y; omega)
    have := h.anti x z
    omega⟩
theorem Pre.pull {α β : Type} {c : α → α → Int} (h : Pre c) (f : β → α) : Pre fun x y => c (f x) (f y) :=
  ⟨fun _ _ => h.anti _ _, fun _ _ _ => h.trans _ _ _⟩
theorem Pre.lex {α : Type} {c d : α → α → Int} (h : Pre c) (g : Pre d) : Pre fun x y => if c x y ≠ 0 then c x y else d x y := by
  refine ⟨fun x y => ?_, fun x y z h1 h2 => ?_⟩
  · show (if c y x ≠ 0 then c y x else d y x) = - (if c x y ≠ 0 then c x y else d x y)
    have := h.anti x y
    by_cases h0 : c x y = 0
    · rw [if_neg (by omega), if_neg (by omega)]; exact g.anti x y
    · rw [if_pos (by omega), if_pos (by omega)]; exact this
  · by_cases a : c x y = 0
    · rw [if_neg (by omega)] at h1
      by_cases b : c y z = 0
      · rw [if_neg (by omega)] at h2
        rw [if_neg (by have := h.zero a b; omega)]
        exact g.trans x y z h1 h2
      · rw [if_pos b] at h2
        have := h.right (x := x) (y := y) (z := z) (by omega) (by omega)
        rw [if_pos (by omega)]; omega
    · rw [if_pos a] at h1
      have h3 : c y z ≤ 0 := by
        by_cases b : c y z = 0
        · omega
        · rw [if_pos b] at h2; exact h2
      have := h.left (x := x) (y := y) (z := z) (by omega) h3
      rw [if_pos (by omega)]; omega
theorem Pre.none {α : Type} : Pre (fun _ _ : α => (0 : Int)) := ⟨fun _ _ => rfl, fun _ _ _ _ _ => Int.le_refl 0⟩

theorem pre_int : Pre cmpInt := by
  refine ⟨fun x y => ?_, fun x y z => ?_⟩ <;> simp only [cmpInt, Lib.compareInt] <;> repeat' split
  all_goals omega

theorem cmpBytes_cons (a b : UInt8) (r s : Bytes) : cmpBytes (a :: r) (b :: s) = if a.toNat < b.toNat then -1 else if b.toNat < a.toNat then 1 else cmpBytes r s := by
  show (if a < b then (-1 : Int) else if b < a then 1 else cmpBytes r s) = _
  simp only [UInt8.lt_iff_toNat_lt]

theorem pre_bytes : Pre cmpBytes := by
  refine ⟨fun x => ?_, fun x => ?_⟩
  · induction x with
    | nil => intro y; cases y <;> simp [cmpBytes, Lib.compareBytes]
    | cons a r ih =>
      intro y
      cases y with
      | nil => simp [cmpBytes, Lib.compareBytes]
      | cons b s =>
        have := ih s
        rw [cmpBytes_cons, cmpBytes_cons]
        repeat' split
        all_goals omega
  · induction x with
    | nil => intro y z; cases y <;> cases z <;> simp [cmpBytes, Lib.compareBytes]
    | cons a r ih =>
      intro y z
      cases y with
      | nil => cases z <;> simp [cmpBytes, Lib.compareBytes]
      | cons b s =>
        cases z with
        | nil => simp [cmpBytes, Lib.compareBytes]
        | cons c t =>
          have := ih s t
          rw [cmpBytes_cons, cmpBytes_cons, cmpBytes_cons]
          repeat' split
          all_goals omega

theorem cmpBytes_zero : ∀ a b : Bytes, cmpBytes a b = 0 ↔ a = b
  | [], [] => by simp [cmpBytes, Lib.compareBytes]
  | [], _ :: _ => by simp [cmpBytes, Lib.compareBytes]
  | _ :: _, [] => by simp [cmpBytes, Lib.compareBytes]
  | a :: r, b :: s => by
    rw [cmpBytes_cons, List.cons.injEq, ← cmpBytes_zero r s, ← UInt8.toNat_inj]
    repeat' split
    all_goals omega

/-- Two numbers, told by sign and digits. -/
def cmpNum (x y : Int × Bytes) : Int :=
  if x.1 ≠ y.1 then cmpInt x.1 y.1
  else if x.2.length ≠ y.2.length then x.1 * cmpInt x.2.length y.2.length
  else x.1 * cmpBytes x.2 y.2

theorem pre_digits : Pre fun d e : Bytes => if cmpInt d.length e.length ≠ 0 then cmpInt d.length e.length else cmpBytes d e :=
  Pre.lex (pre_int.pull fun d : Bytes => (d.length : Int)) pre_bytes

theorem cmpInt_zero (a b : Int) : cmpInt a b = 0 ↔ a = b := by
  simp only [cmpInt, Lib.compareInt]; repeat' split
  all_goals omega

theorem cmpNum_eq (x y : Int × Bytes) (h : x.1 = 1 ∨ x.1 = -1) : cmpNum x y = if x.1 ≠ y.1 then cmpInt x.1 y.1 else if x.1 = 1 then (if cmpInt x.2.length y.2.length ≠ 0 then cmpInt x.2.length y.2.length else cmpBytes x.2 y.2) else - (if cmpInt x.2.length y.2.length ≠ 0 then cmpInt x.2.length y.2.length else cmpBytes x.2 y.2) := by
  unfold cmpNum
  have hz := cmpInt_zero x.2.length y.2.length
  generalize cmpBytes x.2 y.2 = v at *
  generalize cmpInt x.2.length y.2.length = u at *
  generalize cmpInt x.1 y.1 = p at *
  rcases h with h | h <;> rw [h] <;> repeat' split
  all_goals omega

theorem pre_num_on (S : Int × Bytes → Prop) (hS : ∀ x, S x → x.1 = 1 ∨ x.1 = -1) :
    (∀ x y, S x → S y → cmpNum y x = - cmpNum x y) ∧ ∀ x y z, S x → S y → S z → cmpNum x y ≤ 0 → cmpNum y z ≤ 0 → cmpNum x z ≤ 0 := by
  have hd := pre_digits
  refine ⟨fun x y hx hy => ?_, fun x y z hx hy hz => ?_⟩
  · rw [cmpNum_eq x y (hS x hx), cmpNum_eq y x (hS y hy)]
    have h1 := hd.anti x.2 y.2
    have h2 := pre_int.anti x.1 y.1
    generalize (if cmpInt x.2.length y.2.length ≠ 0 then cmpInt x.2.length y.2.length else cmpBytes x.2 y.2) = u at *
    generalize (if cmpInt y.2.length x.2.length ≠ 0 then cmpInt y.2.length x.2.length else cmpBytes y.2 x.2) = v at *
    generalize cmpInt x.1 y.1 = p at *
    generalize cmpInt y.1 x.1 = q at *
    repeat' split
    all_goals omega
  · rw [cmpNum_eq x y (hS x hx), cmpNum_eq y z (hS y hy), cmpNum_eq x z (hS x hx)]
    have h1 := hd.trans x.2 y.2 z.2
    have h1' := hd.trans z.2 y.2 x.2
    have h2 := hd.anti x.2 y.2
    have h3 := hd.anti y.2 z.2
    have h4 := hd.anti x.2 z.2
    generalize (if cmpInt x.2.length y.2.length ≠ 0 then cmpInt x.2.length y.2.length else cmpBytes x.2 y.2) = u at *
    generalize (if cmpInt y.2.length z.2.length ≠ 0 then cmpInt y.2.length z.2.length else cmpBytes y.2 z.2) = v at *
    generalize (if cmpInt x.2.length z.2.length ≠ 0 then cmpInt x.2.length z.2.length else cmpBytes x.2 z.2) = s at *
    generalize (if cmpInt y.2.length x.2.length ≠ 0 then cmpInt y.2.length x.2.length else cmpBytes y.2 x.2) = u' at *
    generalize (if cmpInt z.2.length y.2.length ≠ 0 then cmpInt z.2.length y.2.length else cmpBytes z.2 y.2) = v' at *
    generalize (if cmpInt z.2.length x.2.length ≠ 0 then cmpInt z.2.length x.2.length else cmpBytes z.2 x.2) = s' at *
    rcases hS x hx with hx | hx <;> rcases hS y hy with hy | hy <;> rcases hS z hz with hz | hz <;> rw [hx, hy, hz] <;> simp [cmpInt, Lib.compareInt] <;> omega

theorem ite_pair_one (c : Bool) (d : Bytes) : (if c = true then ((-1 : Int), d) else (1, d)).1 = 1 ∨ (if c = true then ((-1 : Int), d) else (1, d)).1 = -1 := by
  cases c
  · exact .inl rfl
  · exact .inr rfl
theorem numOf_sign (b : Bytes) : (numOf b).1 = 1 ∨ (numOf b).1 = -1 := ite_pair_one _ _

theorem pre_numbers : Pre numbers := by
  obtain ⟨h1, h2⟩ := pre_num_on (fun x => ∃ b, x = numOf b) (by rintro x ⟨b, rfl⟩; exact numOf_sign b)
  exact ⟨fun x y => h1 (numOf x) (numOf y) ⟨x, rfl⟩ ⟨y, rfl⟩, fun x y z => h2 (numOf x) (numOf y) (numOf z) ⟨x, rfl⟩ ⟨y, rfl⟩ ⟨z, rfl⟩⟩

theorem pre_byKey (sep : Int) (k : Key) : Pre (byKey sep k) := by
  have h : Pre fun a b => if has k.fl 32 then numbers (piece sep a k) (piece sep b k) else texts k.fl (piece sep a k) (piece sep b k) := by
    cases has k.fl 32 with
    | true => exact pre_numbers.pull fun a => piece sep a k
    | false => exact pre_bytes.pull fun a => kept k.fl (piece sep a k)
  unfold byKey
  cases has k.fl 64 with
  | true => exact h.neg
  | false => exact h

theorem pre_keys (sep : Int) : ∀ ks : List Key, Pre fun a b => keysCmp sep a b ks
  | [] => Pre.none
  | k :: r => (pre_byKey sep k).lex (pre_keys sep r)

theorem pre_compare (o : Ordr) : Pre (compare o) := by
  have h : Pre fun a b : Bytes => if has o.fl 64 then - cmpBytes a b else cmpBytes a b := by
    cases has o.fl 64 with
    | true => exact pre_bytes.neg
    | false => exact pre_bytes
  exact (pre_keys o.sep o.keys).lex h

theorem compare_zero (o : Ordr) (a b : Bytes) : compare o a b = 0 ↔ a = b := by
  constructor
  · intro h
    unfold compare at h
    split at h
    · omega
    · apply (cmpBytes_zero a b).1
      split at h <;> omega
  · rintro rfl; exact (pre_compare o).self a

theorem compare_keys (o : Ordr) (a b : Bytes) (h : keysCmp o.sep a b o.keys ≠ 0) : compare o a b = keysCmp o.sep a b o.keys := by
  unfold compare; rw [if_pos h]

theorem sign_cases (n : Int) : (n < 0 ∧ sign n = -1) ∨ (n = 0 ∧ sign n = 0) ∨ (0 < n ∧ sign n = 1) := by
  unfold sign; repeat' split
  all_goals omega

/-- All that OrderOrders asks. -/
structure OrdersLaw (ab ba bc ac kab kbc kac : Int) (same : Prop) : Prop where
  anti : ab = - ba
  zero : ab = 0 ↔ same
  keys : kab ≠ 0 → kab = ab
  trans : ab ≤ 0 → bc ≤ 0 → ac ≤ 0
  ktrans : kab ≤ 0 → kbc ≤ 0 → kac ≤ 0
  kzero : kab = 0 → kbc = 0 → kac = 0

theorem ordersLaw (o : Ordr) (a b c : Bytes) : OrdersLaw (sign (compare o a b)) (sign (compare o b a)) (sign (compare o b c)) (sign (compare o a c)) (sign (keysCmp o.sep a b o.keys)) (sign (keysCmp o.sep b c o.keys)) (sign (keysCmp o.sep a c o.keys)) (a = b) := by
  have hp := pre_compare o
  have hk := pre_keys o.sep o.keys
  have h1 := hp.anti a b
  have h2 := compare_zero o a b
  have h3 := compare_keys o a b
  have h4 := hp.trans a b c
  have h5 := hk.trans a b c
  have h6 := hk.zero (x := a) (y := b) (z := c)
  rcases sign_cases (compare o a b) with ⟨u1, e1⟩ | ⟨u1, e1⟩ | ⟨u1, e1⟩ <;> rcases sign_cases (compare o b a) with ⟨u2, e2⟩ | ⟨u2, e2⟩ | ⟨u2, e2⟩ <;> try omega
  all_goals
    have s3 := sign_cases (compare o b c)
    have s4 := sign_cases (compare o a c)
    have s5 := sign_cases (keysCmp o.sep a b o.keys)
    have s6 := sign_cases (keysCmp o.sep b c o.keys)
    have s7 := sign_cases (keysCmp o.sep a c o.keys)
    rw [e1, e2]
    refine ⟨by omega, ?_, by omega, by omega, by omega, by omega⟩
    rw [← h2]; omega

end Go.Proofs.YtnhopkjichgckaaDoor.Ord
