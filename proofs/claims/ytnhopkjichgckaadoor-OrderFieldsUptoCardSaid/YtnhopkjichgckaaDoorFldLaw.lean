/-
  The plain law of OrderFields: lines that are joined of fields compare by one field as that field's bytes do. No condition, no program in sight.
-/
import Derived.Test.YtnhopkjichgckaaDoorLaw
namespace Go.Proofs.YtnhopkjichgckaaDoor.Ord
open Go

/-- What stands behind the first field. -/
def tailJ (s : UInt8) (r : List Bytes) : Bytes := r.flatMap fun x => s :: x
/-- Fields with a byte between them. -/
def join (s : UInt8) : List Bytes → Bytes
  | [] => []
  | x :: r => x ++ tailJ s r
theorem join_push (s : UInt8) (M : List Bytes) (x : Bytes) : join s (M ++ [x]) = if M = [] then x else join s M ++ s :: x := by
  cases M with
  | nil => simp [join, tailJ]
  | cons y r => simp [join, tailJ]

def lenAll : List Bytes → Nat
  | [] => 0
  | x :: r => x.length + 1 + lenAll r
theorem tailJ_len (s : UInt8) : ∀ r : List Bytes, (tailJ s r).length = lenAll r
  | [] => rfl
  | x :: r => by
    have := tailJ_len s r
    have e : tailJ s (x :: r) = (s :: x) ++ tailJ s r := by simp [tailJ]
    rw [e, List.length_append, this]
    simp only [List.length_cons, lenAll]
theorem join_len (s : UInt8) (L : List Bytes) : (join s L).length ≤ lenAll L := by
  cases L with
  | nil => exact Nat.le_refl _
  | cons x r => simp only [join, List.length_append, tailJ_len, lenAll]; omega
theorem lenAll_take : ∀ (L : List Bytes) (k : Nat), lenAll (L.take k) ≤ lenAll L
  | [], k => by simp [lenAll]
  | x :: r, 0 => by simp [lenAll]
  | x :: r, k + 1 => by have := lenAll_take r k; simp only [List.take_succ_cons, lenAll]; omega
theorem lenAll_get : ∀ (L : List Bytes) (k : Nat), (L.getD k []).length ≤ lenAll L
  | [], k => by simp
  | x :: r, 0 => by simp [lenAll]; omega
  | x :: r, k + 1 => by have := lenAll_get r k; simp only [List.getD_cons_succ, lenAll]; omega

def joinedL (L : List Bytes) (s : UInt8) : Bytes := if L.all (fun x => !x.contains s) then join s L else []

theorem takeWhile_stop (s : UInt8) (x t : Bytes) (hx : x.contains s = false) (ht : t = [] ∨ ∃ u, t = s :: u) : (x ++ t).takeWhile (fun c => !((c.toNat : Int) == (s.toNat : Int))) = x := by
  have e : ∀ c : UInt8, ((c.toNat : Int) == (s.toNat : Int)) = (c == s) := fun c => by
    rw [Bool.eq_iff_iff]
    simp only [beq_iff_eq]
    constructor
    · intro h; exact UInt8.toNat_inj.1 (by omega)
    · rintro rfl; rfl
  simp only [e]
  induction x with
  | nil =>
    rcases ht with rfl | ⟨u, rfl⟩
    · rfl
    · simp
  | cons c r ih =>
    simp only [List.contains_cons, Bool.or_eq_false_iff] at hx
    have h1 : (c == s) = false := by
      cases h : (c == s) with
      | false => rfl
      | true => have := hx.1; simp only [beq_iff_eq] at h; subst h; simp at this
    rw [List.cons_append, List.takeWhile_cons, h1]
    simp only [Bool.not_false, if_true]
    rw [ih hx.2]

theorem field_join (s : UInt8) (b : Bytes) : ∀ (n : Nat) (L : List Bytes) (a : Nat), (∀ x ∈ L, x.contains s = false) → n < L.length → a ≤ b.length → b.drop a = join s L →
    ∃ u e, field s.toNat b (n + 1) a = some (u, e) ∧ (b.take e).drop u = L.getD n [] := by
  intro n
  induction n with
  | zero =>
    intro L a hL hn ha hb
    cases L with
    | nil => simp at hn
    | cons x r =>
      have he : fieldEnd s.toNat b a = a + x.length := by
        unfold fieldEnd
        rw [if_pos (by omega), hb]
        show a + ((x ++ tailJ s r).takeWhile _).length = _
        rw [takeWhile_stop s x _ (hL x (by simp)) (by cases r; exact .inl rfl; exact .inr ⟨_, rfl⟩)]
      refine ⟨a, a + x.length, ?_, ?_⟩
      · unfold field; rw [if_pos rfl, he]
      · rw [List.drop_take, Nat.add_sub_cancel_left, hb]
        simp [join]
  | succ n ih =>
    intro L a hL hn ha hb
    match L, hL, hn, hb with
    | [], _, hn, _ => simp at hn
    | [_], _, hn, _ => simp at hn
    | x :: y :: r, hL, hn, hb =>
      have he : fieldEnd s.toNat b a = a + x.length := by
        unfold fieldEnd
        rw [if_pos (by omega), hb]
        show a + ((x ++ tailJ s (y :: r)).takeWhile _).length = _
        rw [takeWhile_stop s x (tailJ s (y :: r)) (hL x (by simp)) (.inr ⟨y ++ tailJ s r, by simp [tailJ]⟩)]
      have ej : join s (x :: y :: r) = x ++ s :: join s (y :: r) := by simp [join, tailJ]
      have hlen : b.length - a = x.length + 1 + (join s (y :: r)).length := by
        have := congrArg List.length hb
        rw [ej] at this
        simp at this; omega
      have hd : b.drop (a + x.length + 1) = join s (y :: r) := by
        have := congrArg (List.drop (x.length + 1)) hb
        rw [List.drop_drop, ej] at this
        rw [Nat.add_assoc, this]
        have e2 : x ++ s :: join s (y :: r) = (x ++ [s]) ++ join s (y :: r) := by simp
        rw [e2, List.drop_left' (by simp)]
      obtain ⟨u, e, h1, h2⟩ := ih (y :: r) (a + x.length + 1) (fun z hz => hL z (List.mem_cons_of_mem _ hz)) (by simpa using hn) (by omega) hd
      refine ⟨u, e, ?_, by simpa using h2⟩
      unfold field
      rw [if_neg (by omega), he, if_neg (by omega), if_pos (by omega)]
      exact h1

theorem piece_join (s : UInt8) (L : List Bytes) (n : Nat) (hL : ∀ x ∈ L, x.contains s = false) (hn : n < L.length) : piece s.toNat (join s L) ⟨⟨(n : Int) + 1, 0⟩, ⟨(n : Int) + 1, 0⟩, 0⟩ = L.getD n [] := by
  obtain ⟨u, e, h1, h2⟩ := field_join s (join s L) n L 0 hL hn (Nat.zero_le _) rfl
  have en : ((n : Int) + 1).toNat = n + 1 := by omega
  have hf : pieceFrom s.toNat (join s L) ⟨⟨(n : Int) + 1, 0⟩, ⟨(n : Int) + 1, 0⟩, 0⟩ = u := by
    unfold pieceFrom
    simp only [en, h1]
    have : has 0 1 = false := by decide
    rw [this]
    simp
    omega
  have ht : pieceTo s.toNat (join s L) ⟨⟨(n : Int) + 1, 0⟩, ⟨(n : Int) + 1, 0⟩, 0⟩ = e := by
    unfold pieceTo
    simp only [en, h1]
    rw [if_pos (by omega), if_neg (by omega)]
  unfold piece
  rw [hf, ht]
  split
  · rw [← h2, List.drop_eq_nil_of_le (by simp; omega)]
  · simpa using h2

theorem kept_zero (b : Bytes) : kept 0 b = b := by
  have h1 : has 0 4 = false := by decide
  have h2 : has 0 16 = false := by decide
  have h3 : has 0 8 = false := by decide
  unfold kept
  have e1 : b.filter (counts 0) = b := List.filter_eq_self.2 fun c _ => by simp [counts, h1, h2]
  rw [e1]
  have e2 : ∀ c : UInt8, folded 0 c = c := fun c => by simp [folded, h3]
  rw [List.map_congr_left (fun c _ => e2 c)]
  simp

theorem fieldsLaw (s : UInt8) (A B : List Bytes) (n : Nat) (hA : ∀ x ∈ A, x.contains s = false) (hB : ∀ x ∈ B, x.contains s = false) (ha : n < A.length) (hb : n < B.length) :
    keysCmp s.toNat (join s A) (join s B) [⟨⟨(n : Int) + 1, 0⟩, ⟨(n : Int) + 1, 0⟩, 0⟩] = cmpBytes (A.getD n []) (B.getD n []) := by
  have h : byKey s.toNat ⟨⟨(n : Int) + 1, 0⟩, ⟨(n : Int) + 1, 0⟩, 0⟩ (join s A) (join s B) = cmpBytes (A.getD n []) (B.getD n []) := by
    unfold byKey
    rw [piece_join s A n hA ha, piece_join s B n hB hb]
    have h1 : has 0 32 = false := by decide
    have h2 : has 0 64 = false := by decide
    simp only [h1, h2, texts, kept_zero]
    rfl
  unfold keysCmp keysCmp
  rw [h]
  split
  · rfl
  · rename_i h0; simp at h0; exact h0.symm

/-- What Read makes of the options. -/
theorem read_fields (s : UInt8) (n : Nat) (hn : n ≤ 8) : readAll [(116, [s]), (107, [UInt8.ofNat (49 + n), 44, UInt8.ofNat (49 + n)])] = some ⟨0, s.toNat, [⟨⟨(n : Int) + 1, 0⟩, ⟨(n : Int) + 1, 0⟩, 0⟩]⟩ := by
  have h0 : readOpts 0 [(116, [s]), (107, [UInt8.ofNat (49 + n), 44, UInt8.ofNat (49 + n)])] (-1) [] = some ((s.toNat : Int), [⟨⟨(n : Int) + 1, 0⟩, ⟨(n : Int) + 1, 0⟩, 0⟩]) := by
    have : n = 0 ∨ n = 1 ∨ n = 2 ∨ n = 3 ∨ n = 4 ∨ n = 5 ∨ n = 6 ∨ n = 7 ∨ n = 8 := by omega
    rcases this with rfl | rfl | rfl | rfl | rfl | rfl | rfl | rfl | rfl <;> rfl
  have hw : wholeFlags [(116, [s]), (107, [UInt8.ofNat (49 + n), 44, UInt8.ofNat (49 + n)])] = 0 := by
    unfold wholeFlags
    simp only [List.foldl_cons, List.foldl_nil]
    decide
  unfold readAll
  rw [hw, h0]
  simp only
  rw [if_neg (by omega)]
  rfl

end Go.Proofs.YtnhopkjichgckaaDoor.Ord
