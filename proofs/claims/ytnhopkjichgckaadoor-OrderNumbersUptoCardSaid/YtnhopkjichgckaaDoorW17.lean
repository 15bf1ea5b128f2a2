/-
  The walk of written. Condition: the three numbers are within their bounds.
-/
import Derived.Test.YtnhopkjichgckaaDoorW15
import Derived.Test.YtnhopkjichgckaaDoorNumLaw
namespace Go.Proofs.YtnhopkjichgckaaDoor
open Go.RowKit Go.Shelf

def strLen : Value → Nat
  | .string b => b.size
  | _ => 0

/-- The first loop, half way: what is written, what is left. -/
def Half (N m : Nat) (s : Ord.Bytes) : Prop := s.length + m ≤ N + 1 ∧ ((s = [] ∧ m = N) ∨ (s ≠ [] ∧ Ord.decs N = (if m = 0 then [] else Ord.decs m) ++ s))
theorem Half.step {N m : Nat} {s : Ord.Bytes} (h : Half N m s) (hg : m ≠ 0 ∨ s = []) : Half N (m / 10) (UInt8.ofNat (48 + m % 10) :: s) := by
  obtain ⟨hl, h⟩ := h
  refine ⟨?_, .inr ⟨by simp, ?_⟩⟩
  · rw [List.length_cons]
    rcases hg with hm | rfl
    · omega
    · simp only [List.length_nil] at hl ⊢; omega
  · have hd : Ord.decs m = (if m / 10 = 0 then [] else Ord.decs (m / 10)) ++ [UInt8.ofNat (48 + m % 10)] := by
      by_cases hm : m < 10
      · rw [Ord.decs_small m hm, if_pos (by omega), Nat.mod_eq_of_lt hm]; rfl
      · rw [Ord.decs_big m hm, if_neg (by omega)]
    rcases h with ⟨rfl, rfl⟩ | ⟨hs, he⟩
    · exact hd
    · have hm : m ≠ 0 := hg.resolve_right hs
      rw [he, if_neg hm, hd, List.append_assoc]; rfl
theorem Half.done {N : Nat} {s : Ord.Bytes} (h : Half N 0 s) (hs : s ≠ []) : s = Ord.decs N := by
  rcases h.2 with ⟨h1, _⟩ | ⟨_, h1⟩
  · exact absurd h1 hs
  · rw [h1]; rfl

theorem catS (c : UInt8) (s : Ord.Bytes) : (⟨#[c]⟩ : ByteArray) ++ ⟨s.toArray⟩ = ⟨(c :: s).toArray⟩ := by
  apply ByteArray.ext
  rw [ByteArray.data_append]
  simp

theorem conv_digit (W : World) (k : Nat) (hk : k < 10) (x : Int) (hx : x = 48 + k) :
    (convert 23 9 (.slice (some ⟨W.heap.size, 0, none⟩) 1 1)).run Tryd.prog (W.alloc (.cells #[.int .u8 x] 5)) = .ok (.string ⟨[UInt8.ofNat (48 + k)].toArray⟩) (W.alloc (.cells #[.int .u8 x] 5)) := by
  have := run_str (bs_one W (UInt8.ofNat (48 + k)) 5) 1
  rw [Ord.ofNat_digit k hk] at this
  rw [hx, show (48 + (k : Int)) = ((48 + k : Nat) : Int) by omega]
  exact this

set_option maxHeartbeats 1600000 in
set_option maxRecDepth 100000 in
theorem written_any (n : Int) (z b : Nat) (w : World) (hn : -1000000000 ≤ n) (hn2 : n ≤ 1000000000) (hz : z ≤ 50) (hb : b ≤ 50) :
    Calls Tryd.prog 11 #[.int .i64 n, .int .i64 z, .int .i64 b] w fun e w' => (e = .returned (.string ⟨(Ord.writtenL n z b).toArray⟩)) ∧ Below w.heap.size w w' := by
  obtain ⟨N, hN⟩ : ∃ N : Nat, N = n.natAbs := ⟨_, rfl⟩
  have hNl : N ≤ 1000000000 := by omega
  have HN := Lib.hid hN
  clear hN
  go_enter Tryd.func11, Tryd.ntmps11
  go_upto_if 13 with fail
  go_cut [0, 8] (fun s0 s8 wx => s0 = .int .i64 N ∧ s8 = .bool (decide (n < 0)) ∧ w = wx)
  case first =>
    by_cases h : n < 0
    · have h' : decide (n < 0) = true := by simpa using h
      go_wp2_with fail
      go_meet
      exact ⟨congrArg (Value.int .i64) (by rw [HN.out]; omega), by first | rfl | exact congrArg Value.bool h'.symm, rfl⟩
    · have h' : decide (n < 0) = false := by simpa using h
      go_wp2_with fail
      go_meet
      exact ⟨congrArg (Value.int .i64) (by rw [HN.out]; omega), by first | rfl | exact congrArg Value.bool h'.symm, rfl⟩
  case rest =>
    obtain ⟨rfl, rfl, rfl⟩ := hcut
    go_wp2_with fail
    go_loopw [0, 7] (fun x0 x7 wr => ∃ (m : Nat) (s : Ord.Bytes), Half N m s ∧ x0 = .int .i64 m ∧ x7 = .string ⟨s.toArray⟩ ∧ Below w.heap.size w wr) (fun x0 x7 _ => (intOf x0).toNat + (1 - strLen x7))
    case atStart => exact ⟨N, [], ⟨by simp, .inl ⟨rfl, rfl⟩⟩, rfl, rfl, Below.refl _ _⟩
    case round =>
      obtain ⟨m, s, hh, rfl, rfl, hbw⟩ := hrel
      have HH := Lib.hid hh
      have hsl := hh.1
      clear hh
      by_cases hg : m ≠ 0 ∨ s = []
      · by_cases hm0 : m = 0
        · subst hm0
          obtain rfl : s = [] := by rcases hg with h | h; exact absurd rfl h; exact h
          have hcv := conv_digit wr 0 (by omega) 48 rfl
          go_wp2_with fail
          refine ⟨⟨0, [48], HH.out.step (.inr rfl), rfl, congrArg Value.string (catS 48 []), hbw.alloc hbw.size _⟩, ?_⟩
          rw [show (⟨#[48]⟩ : ByteArray) ++ ⟨#[]⟩ = ⟨([48] : Ord.Bytes).toArray⟩ from catS 48 []]
          show (0 : Int).toNat + (1 - (⟨([48] : Ord.Bytes).toArray⟩ : ByteArray).size) < (0 : Int).toNat + (1 - (⟨([] : Ord.Bytes).toArray⟩ : ByteArray).size)
          decide
        · have hm1 : decide (0 < (m : Int)) = true := by simp; omega
          have hcv := conv_digit wr (m % 10) (by omega) (48 + (m : Int) % 10) (by omega)
          obtain ⟨c, hc⟩ : ∃ c, UInt8.ofNat (48 + m % 10) = c := ⟨_, rfl⟩
          rw [hc] at hcv
          have HC := Lib.hid hc; clear hc
          go_wp2_with fail
          refine ⟨⟨m / 10, c :: s, by have := HH.out.step hg; rw [HC.out] at this; exact this, by go_num, congrArg Value.string (catS c s), hbw.alloc hbw.size _⟩, ?_⟩
          rw [catS]
          show ((m : Int) / 10).toNat + (1 - (⟨(c :: s).toArray⟩ : ByteArray).size) < (m : Int).toNat + (1 - (⟨s.toArray⟩ : ByteArray).size)
          simp [ByteArray.size]
          omega
      · obtain ⟨hm, hs⟩ : m = 0 ∧ s ≠ [] := by constructor <;> (by_cases h1 : m = 0 <;> by_cases h2 : s = [] <;> simp_all)
        subst hm
        have hs' : s.isEmpty = false := by cases s; exact absurd rfl hs; rfl
        have HD := Lib.hid (HH.out.done hs)
        clear HH hg hs
        go_wp2_with fail
        go_loopw [7, 9] (fun x7 x9 wx => ∃ i : Nat, i ≤ z ∧ x7 = .string ⟨(List.replicate i (48 : UInt8) ++ s).toArray⟩ ∧ x9 = .int .i64 i ∧ wr = wx) (fun _ x9 _ => z - (intOf x9).toNat)
        case atStart => exact ⟨0, Nat.zero_le _, rfl, rfl, rfl⟩
        case round =>
          obtain ⟨i, hi, rfl, rfl, rfl⟩ := hrel
          have hle : (List.replicate i (48 : UInt8) ++ s).length ≤ 1000000051 := by simp; omega
          by_cases hlt : i < z
          · have HX : Hid (List.replicate (i + 1) (48 : UInt8) ++ s = 48 :: (List.replicate i 48 ++ s)) := by show _ = _; rw [List.replicate_succ]; rfl
            generalize List.replicate i (48 : UInt8) ++ s = x at *
            go_wp2_with fail
            refine ⟨⟨i + 1, by omega, by rw [catS, HX.out], by go_num, trivial⟩, ?_⟩
            show z - ((i : Int) + 1).toNat < z - (i : Int).toNat
            omega
          · obtain rfl : i = z := by omega
            generalize hx : List.replicate i (48 : UInt8) ++ s = x at *
            have HX := Lib.hid hx; clear hx
            go_upto_if 39 with fail
            go_cut [7, 40, 41] (fun s7 _s40 _s41 wx => s7 = .string ⟨((if n < 0 then [45] else []) ++ x).toArray⟩ ∧ wr = wx)
            case first =>
              go_wp2_with fail
              · have h0 : n < 0 := by assumption
                go_meet
                exact ⟨by rw [if_pos h0, catS]; rfl, rfl⟩
              · have h0 : 0 ≤ n := by assumption
                go_meet
                exact ⟨by rw [if_neg (by omega)]; rfl, rfl⟩
            case rest =>
              obtain ⟨rfl, rfl⟩ := hcut
              have hyl : ((if n < 0 then [45] else []) ++ x).length ≤ 1000000052 := by split <;> simp <;> omega
              generalize hy : (if n < 0 then [45] else []) ++ x = y at *
              have HY := Lib.hid hy; clear hy
              go_wp2_with fail
              go_loopw [7, 10] (fun x7 x10 wx => ∃ k : Nat, k ≤ b ∧ x7 = .string ⟨(List.replicate k (32 : UInt8) ++ y).toArray⟩ ∧ x10 = .int .i64 k ∧ wr = wx) (fun _ x10 _ => b - (intOf x10).toNat)
              case atStart => exact ⟨0, Nat.zero_le _, rfl, rfl, rfl⟩
              case round =>
                obtain ⟨k, hk, rfl, rfl, rfl⟩ := hrel
                have hle2 : (List.replicate k (32 : UInt8) ++ y).length ≤ 1000000151 := by simp; omega
                by_cases hlt2 : k < b
                · have HZ : Hid (List.replicate (k + 1) (32 : UInt8) ++ y = 32 :: (List.replicate k 32 ++ y)) := by show _ = _; rw [List.replicate_succ]; rfl
                  generalize List.replicate k (32 : UInt8) ++ y = v at *
                  go_wp2_with fail
                  refine ⟨⟨k + 1, by omega, by rw [catS, HZ.out], by go_num, trivial⟩, ?_⟩
                  show b - ((k : Int) + 1).toNat < b - (k : Int).toNat
                  omega
                · obtain rfl : k = b := by omega
                  have HW : Hid (Ord.writtenL n i k = List.replicate k 32 ++ y) := by
                    show _ = _
                    unfold Ord.writtenL
                    rw [← HY.out, ← HX.out, HD.out, HN.out]
                  generalize List.replicate k (32 : UInt8) ++ y = v at *
                  go_wp2_with fail
                  go_ret
                  refine ⟨?_, hbw⟩
                  rw [HW.out]
                  rfl

end Go.Proofs.YtnhopkjichgckaaDoor
