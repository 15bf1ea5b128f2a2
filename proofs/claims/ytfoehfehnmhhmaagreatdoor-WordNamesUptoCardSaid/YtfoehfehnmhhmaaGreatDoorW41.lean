/-
  The walks of the reference's Assign and Plain. Condition: lengths.
-/
import Derived.Test.YtfoehfehnmhhmaaGreatDoorW40
namespace Go.Proofs.YtfoehfehnmhhmaaGreatDoor
open Go.RowKit Go.Shelf Go.Maps

theorem named_cut (a b : Wd.Bytes) : Wd.named (a ++ 61 :: b) = Wd.named a := by
  cases a with
  | nil => rfl
  | cons c r =>
    rw [List.cons_append, named_cons, named_cons, List.takeWhile_append]
    have h : (61 :: b).takeWhile (fun c => Wd.head c || Wd.digit c) = [] := by rw [List.takeWhile_cons]; rfl
    rw [h]
    split
    · split
      · rename_i h2
        simp at h2 ⊢
        omega
      · rfl
    · rfl

/-- Where a name ends. -/
inductive AsgIn (s : Wd.Bytes) (n : Nat) : Prop where
  | zero (h : n = 0) (ha : Wd.assign s = none)
  | full (h : 0 < n) (h2 : n = s.length) (ha : Wd.assign s = none)
  | other (d : UInt8) (h : 0 < n) (h2 : n < s.length) (hd : ∀ h, (⟨s.toArray⟩ : ByteArray)[n]'h = d) (hne : ¬ (d.toNat : Int) = 61) (ha : Wd.assign s = none)
  | sign (h : 0 < n) (h2 : n < s.length) (hd : ∀ h, (⟨s.toArray⟩ : ByteArray)[n]'h = 61) (ha : Wd.assign s = some (s.take n, s.drop (n + 1)))

theorem asg_in (s : Wd.Bytes) : AsgIn s (Wd.named s) := by
  have hle := named_le s
  cases hi : Wd.idx 61 s with
  | none =>
    have ha : Wd.assign s = none := by unfold Wd.assign Wd.cutAt; rw [hi]; rfl
    by_cases h0 : Wd.named s = 0
    · exact .zero h0 ha
    by_cases h1 : Wd.named s = s.length
    · exact .full (by omega) h1 ha
    · obtain ⟨d, hd, hb⟩ := byte_at (show Wd.named s < s.length by omega)
      refine .other d (by omega) (by omega) hb (u8_lit ?_ (by decide)) ha
      have hm : d ∈ s := List.mem_of_mem_drop (by rw [hd]; simp)
      exact idx_no hi d hm
  | some k =>
    obtain ⟨hk, hs, hA⟩ := idx_split hi
    have ha : Wd.assign s = if s.take k = [] ∨ Wd.named (s.take k) ≠ (s.take k).length then none else some (s.take k, s.drop (k + 1)) := by unfold Wd.assign Wd.cutAt; rw [hi]; rfl
    have hl : (s.take k).length = k := by rw [List.length_take]; omega
    have hn : Wd.named s = Wd.named (s.take k) := by
      conv => lhs; rw [hs]
      exact named_cut _ _
    have hnk : Wd.named s ≤ k := by rw [hn]; have := named_le (s.take k); omega
    by_cases h0 : Wd.named s = 0
    · refine .zero h0 ?_
      rw [ha, if_pos]
      by_cases hk0 : k = 0
      · exact .inl (by rw [hk0]; rfl)
      · exact .inr (by rw [← hn, hl]; omega)
    by_cases h1 : Wd.named s = k
    · refine .sign (by omega) (by omega) ?_ ?_
      · obtain ⟨d, hd, hb⟩ := byte_at (show Wd.named s < s.length by omega)
        have h2 : s.drop k = 61 :: s.drop (k + 1) := by
          conv => lhs; rw [hs]
          rw [List.drop_append, hl, Nat.sub_self, List.drop_eq_nil_of_le (by omega)]; rfl
        rw [h1, h2] at hd
        rw [(List.cons.inj hd).1]; exact hb
      · rw [ha, if_neg, h1]
        rintro (h | h)
        · have := congrArg List.length h; rw [hl] at this; simp at this; omega
        · exact h (by rw [← hn, hl, h1])
    · obtain ⟨d, hd, hb⟩ := byte_at (show Wd.named s < s.length by omega)
      refine .other d (by omega) (by omega) hb (u8_lit ?_ (by decide)) ?_
      · refine hA d ?_
        have h2 : (s.take k)[Wd.named s]? = some d := by
          rw [List.getElem?_take_of_lt (by omega)]
          have : s[Wd.named s]? = (s.drop (Wd.named s))[0]? := by rw [List.getElem?_drop]; rfl
          rw [this, hd]; rfl
        exact List.mem_of_getElem? h2
      · rw [ha, if_pos (.inr (by rw [← hn, hl]; exact h1))]

set_option maxHeartbeats 1600000 in
set_option maxRecDepth 100000 in
theorem refAssign_any (w : World) (s : Wd.Bytes) (hs : s.length < 1073741824) :
    Calls Tryz.prog 13 #[.string ⟨s.toArray⟩] w fun e w' => e = .returned (asg (Wd.assign s)) ∧ Below w.heap.size w w' := by
  have hn := Name_any s hs w
  have ext := extr_take s (Wd.named s)
  have exd := extract_from s (Wd.named s + 1)
  have hin := asg_in s
  generalize Wd.named s = n at *
  rcases hin with ⟨rfl, ha⟩ | ⟨h, h2, ha⟩ | ⟨d, h, h2, hd, hne, ha⟩ | ⟨h, h2, hd, ha⟩ <;> rw [ha] <;> clear ha
  · go_enter Tryz.func13, Tryz.ntmps13
    go_wp2_with fail
    refine hn.mono ?_
    rintro e w1 ⟨rfl, rfl⟩
    clear hn
    go_wp2_with fail
    go_ret3
    exact ⟨rfl, Below.refl _ _⟩
  · have k1 : ¬ (n : Int) = 0 := by omega
    have k2 : (n : Int) = (s.length : Int) := by omega
    have k3 : ¬ n = 0 := by omega
    have K2 := Lib.hid h2
    rw [k2] at hn
    clear h2 k2 ext exd
    have k4 : ¬ (s.length : Int) = 0 := by have := K2.out; unfold Hid at this; omega
    have k5 : ¬ s.length = 0 := by have := K2.out; unfold Hid at this; omega
    go_enter Tryz.func13, Tryz.ntmps13
    go_wp2_with fail
    refine hn.mono ?_
    rintro e w1 ⟨rfl, rfl⟩
    clear hn
    go_wp2_with fail
    go_ret3
    exact ⟨rfl, Below.refl _ _⟩
  · have k1 : ¬ (n : Int) = 0 := by omega
    have k2 : ¬ (n : Int) = (s.length : Int) := by omega
    have k3 : ¬ n = 0 := by omega
    have k4 : ¬ n = s.length := by omega
    have k5 : (n : Int) < (s.length : Int) := by omega
    go_enter Tryz.func13, Tryz.ntmps13
    go_wp2_with fail
    refine hn.mono ?_
    rintro e w1 ⟨rfl, rfl⟩
    clear hn
    go_wp2_with fail
    go_ret3
    exact ⟨rfl, Below.refl _ _⟩
  · have k1 : ¬ (n : Int) = 0 := by omega
    have k2 : ¬ (n : Int) = (s.length : Int) := by omega
    have k3 : ¬ n = 0 := by omega
    have k4 : ¬ n = s.length := by omega
    have k5 : (n : Int) < (s.length : Int) := by omega
    have k6 : (n : Int) + 1 ≤ (s.length : Int) := by omega
    have k7 : (n : Int) ≤ (s.length : Int) := by omega
    have k8 : IntKind.i64.wrap ((n : Int) + 1) = (n : Int) + 1 := by simp [IntKind.wrap, IntKind.signed, IntKind.bits]; omega
    have k9 : (0 : Int) ≤ (n : Int) + 1 := by omega
    have k10 : ((n : Int) + 1).toNat = n + 1 := by omega
    go_enter Tryz.func13, Tryz.ntmps13
    go_wp2_with fail
    refine hn.mono ?_
    rintro e w1 ⟨rfl, rfl⟩
    clear hn
    go_wp2_with fail
    go_region
    all_goals go_wp2_with fail
    all_goals
      go_ret3
      exact ⟨rfl, below_drew2 _⟩

def signB (c : UInt8) : Bool := c == 39 || c == 34 || c == 92 || c == 36

set_option maxHeartbeats 3200000 in
set_option maxRecDepth 100000 in
theorem refPlain_any (w : World) (x s : Wd.Bytes) (hx : x.length < 1073741824) :
    Calls Tryz.prog 15 #[.string ⟨x.toArray⟩, .string ⟨s.toArray⟩] w fun e w' => e = .returned (.bool (Wd.plainly x s)) ∧ w' = w := by
  have HP : Hid (Wd.plainly x s = (x == s && !(x.any signB))) := rfl
  generalize Wd.plainly x s = R at *
  obtain ⟨N, hN⟩ : ∃ N, x.length = N := ⟨_, rfl⟩
  have HN := Lib.hid hN
  clear hN
  go_enter Tryz.func15, Tryz.ntmps15
  go_wp2_with fail
  go_loop [5] (fun x5 => ∃ i : Nat, i ≤ x.length ∧ x5 = .int .i64 i ∧ Hid ((x.take i).any signB = false)) (fun x5 => x.length - (intOf x5).toNat)
  case atStart => exact ⟨0, Nat.zero_le _, rfl, rfl⟩
  case round =>
    obtain ⟨i, hi, rfl, HA⟩ := hrel
    by_cases hlt : i < x.length
    · have ic : (i : Int) < (x.length : Int) := by omega
      obtain ⟨c, hc, hb⟩ := byte_at hlt
      have hg : x[i] = c := by
        rw [List.drop_eq_getElem_cons hlt] at hc
        exact (List.cons.inj hc).1
      have hcase : (c = 39 ∨ c = 34 ∨ c = 92 ∨ c = 36) ∨ (signB c = false ∧ ¬ (c.toNat : Int) = 39 ∧ ¬ (c.toNat : Int) = 34 ∧ ¬ (c.toNat : Int) = 92 ∧ ¬ (c.toNat : Int) = 36) := by
        by_cases a : c = 39
        · exact .inl (.inl a)
        by_cases a2 : c = 34
        · exact .inl (.inr (.inl a2))
        by_cases a3 : c = 92
        · exact .inl (.inr (.inr (.inl a3)))
        by_cases a4 : c = 36
        · exact .inl (.inr (.inr (.inr a4)))
        · exact .inr ⟨by simp [signB, a, a2, a3, a4], u8_lit a (by decide), u8_lit a2 (by decide), u8_lit a3 (by decide), u8_lit a4 (by decide)⟩
      rcases hcase with hs | ⟨hs, n1, n2, n3, n4⟩
      · have HR : Hid (R = false) := by
          show _ = _
          rw [HP.out]
          have : x.any signB = true := List.any_eq_true.2 ⟨c, by rw [← hg]; exact List.getElem_mem _, by rcases hs with rfl | rfl | rfl | rfl <;> rfl⟩
          rw [this]; simp
        clear hc hg
        rcases hs with rfl | rfl | rfl | rfl
        all_goals
          go_wp2_with fail
          go_ret
          exact ⟨by rw [HR.out]; rfl, rfl⟩
      · have HA2 : Hid ((x.take (i + 1)).any signB = false) := by
          show _ = _
          rw [List.take_succ_eq_append_getElem hlt, List.any_append, HA.out, hg]
          simp [hs]
        clear hc hg hs
        go_wp2_with fail
        go_round
        case rel => exact ⟨i + 1, by omega, by go_num, HA2⟩
        case measure => simp [intOf]; omega
    · have HR : Hid (R = (x == s)) := by
        show _ = _
        rw [HP.out]
        have := HA.out
        rw [List.take_of_length_le (by omega)] at this
        rw [this]; simp
      cases hxs : (x == s) with
      | true =>
        have h2 : x = s := by simpa using hxs
        rw [hxs] at HR
        clear hxs
        subst h2
        go_wp2_with fail
        go_ret
        exact ⟨by rw [HR.out]; rfl, rfl⟩
      | false =>
        have h2 : ¬ x = s := by simpa using hxs
        rw [hxs] at HR
        go_wp2_with fail
        go_ret
        exact ⟨by rw [HR.out]; rfl, rfl⟩

end Go.Proofs.YtfoehfehnmhhmaaGreatDoor
