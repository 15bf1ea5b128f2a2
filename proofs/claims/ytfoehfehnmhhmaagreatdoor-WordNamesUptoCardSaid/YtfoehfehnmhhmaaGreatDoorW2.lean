/-
  The walks of word's named, special; IndexByte, HasPrefix, CutPrefix on lists of bytes. No condition but lengths.
-/
import Derived.Test.YtfoehfehnmhhmaaGreatDoorW1
namespace Go.Proofs.YtfoehfehnmhhmaaGreatDoor
open Go.RowKit Go.Shelf

theorem byte_at {s : Wd.Bytes} {a : Nat} (h : a < s.length) : ∃ c, s.drop a = c :: s.drop (a + 1) ∧ ∀ h, (⟨s.toArray⟩ : ByteArray)[a]'h = c :=
  ⟨s[a], by rw [List.drop_eq_getElem_cons h], fun _ => rfl⟩
theorem str_nil (s : Wd.Bytes) : ((⟨s.toArray⟩ : ByteArray) == ⟨#[]⟩) = s.isEmpty := by
  cases s with
  | nil => rfl
  | cons c r =>
    have : ((c :: r).toArray == (#[] : Array UInt8)) = false := by
      rw [beq_eq_false_iff_ne]
      intro e
      have := congrArg Array.size e
      simp at this
    exact this

/-- What a run of bytes is, up to a place. -/
theorem takeWhile_to (p : UInt8 → Bool) {s : Wd.Bytes} {k : Nat} (hall : (s.take k).all p = true) (hstop : ∀ c u, s.drop k = c :: u → p c = false) : s.takeWhile p = s.take k ∧ s.dropWhile p = s.drop k := by
  have hx : ∀ (x y : Wd.Bytes), x.all p = true → (∀ c v, y = c :: v → p c = false) → (x ++ y).takeWhile p = x ∧ (x ++ y).dropWhile p = y := by
    intro x
    induction x with
    | nil =>
      intro y _ hy
      cases y with
      | nil => exact ⟨rfl, rfl⟩
      | cons c v =>
        have := hy c v rfl
        simp [this]
    | cons c x ih =>
      intro y hx hy
      simp only [List.all_cons, Bool.and_eq_true] at hx
      have := ih y hx.2 hy
      simp [hx.1, this.1, this.2]
  have := hx _ _ hall hstop
  rwa [List.take_append_drop] at this

def nameOn (c : UInt8) : Bool := Wd.head c || Wd.digit c
theorem named_cons (c : UInt8) (r : Wd.Bytes) : Wd.named (c :: r) = if Wd.head c then 1 + (r.takeWhile fun c => Wd.head c || Wd.digit c).length else 0 := rfl
theorem named_at {c : UInt8} {r : Wd.Bytes} (h : Wd.head c = true) {k : Nat} (hk : k ≤ r.length) (hall : (r.take k).all nameOn = true) (hstop : ∀ c u, r.drop k = c :: u → nameOn c = false) : Wd.named (c :: r) = k + 1 := by
  rw [named_cons, if_pos h]
  have h1 := (takeWhile_to nameOn hall hstop).1
  have h2 : (r.takeWhile fun c => Wd.head c || Wd.digit c) = r.take k := h1
  rw [h2, List.length_take, Nat.min_eq_left hk, Nat.add_comm]

set_option maxHeartbeats 1600000 in
set_option maxRecDepth 100000 in
theorem named_any (s : Wd.Bytes) (hl : s.length < 1073741824) (w : World) : Calls Tryz.prog 26 #[.string ⟨s.toArray⟩] w fun e w' => e = .returned (.int .i64 (Wd.named s : Nat)) ∧ w' = w := by
  cases s with
  | nil =>
    go_enter Tryz.func26, Tryz.ntmps26
    go_wp2_with fail
    go_ret
    exact ⟨rfl, rfl⟩
  | cons c r =>
    have he : ((⟨(c :: r).toArray⟩ : ByteArray) == ⟨#[]⟩) = false := str_nil _
    have hlr : r.length + 1 < 1073741824 := by simpa using hl
    have hh := head_any c
    obtain ⟨N, hN⟩ : ∃ n, Wd.named (c :: r) = n := ⟨_, rfl⟩
    rw [hN]
    have i0 : ∀ h, (⟨(c :: r).toArray⟩ : ByteArray)[0]'h = c := fun _ => rfl
    cases hc : Wd.head c with
    | false =>
      have HN : Hid (N = 0) := by
        show _ = _
        rw [← hN, named_cons, hc]
        rfl
      rw [hc] at hh
      clear hN hc
      go_enter Tryz.func26, Tryz.ntmps26
      go_wp2_with fail
      refine (hh _).mono ?_
      rintro e w1 ⟨rfl, rfl⟩
      go_wp2_with fail
      go_ret
      exact ⟨ret_int (by rw [HN.out]; rfl), rfl⟩
    | true =>
      have HC := Lib.hid hc
      have HN := Lib.hid hN
      rw [hc] at hh
      clear hN hc
      go_enter Tryz.func26, Tryz.ntmps26
      go_wp2_with fail
      refine (hh _).mono ?_
      rintro e w1 ⟨rfl, rfl⟩
      clear hh
      go_wp2_with fail
      go_loop [3] (fun x => ∃ k : Nat, k ≤ r.length ∧ x = .int .i64 (k + 1 : Nat) ∧ Hid ((r.take k).all nameOn = true)) (fun x => r.length + 1 - (intOf x).toNat)
      case atStart => exact ⟨0, Nat.zero_le _, rfl, by show _ = _; simp⟩
      case round =>
        obtain ⟨k, hk, rfl, HA⟩ := hrel
        by_cases hlt : k < r.length
        · obtain ⟨x, hx, -⟩ := byte_at hlt
          have i1 : ∀ h, (⟨(c :: r).toArray⟩ : ByteArray)[k + 1]'h = x := fun h => by
            have : (c :: r)[k + 1]'(by simpa using hlt) = x := by
              have h2 := congrArg List.head? hx
              rw [List.head?_drop, List.getElem?_eq_getElem hlt] at h2
              simpa using h2
            exact this
          have HX := Lib.hid hx
          have h1 := head_any x
          have h2 := digit_any x
          obtain ⟨A, hA⟩ : ∃ b, Wd.head x = b := ⟨_, rfl⟩
          obtain ⟨D, hD⟩ : ∃ b, Wd.digit x = b := ⟨_, rfl⟩
          rw [hA] at h1
          rw [hD] at h2
          have HON : Hid (nameOn x = (A || D)) := by show _ = _; unfold nameOn; rw [hA, hD]
          clear hA hD hx
          go_wp2_with fail
          refine (h1 _).mono ?_
          rintro e w2 ⟨rfl, rfl⟩
          cases A with
          | true =>
            have HA2 : Hid ((r.take (k + 1)).all nameOn = true) := by
              show _ = _
              rw [List.take_succ_eq_append_getElem hlt, List.all_append, HA.out]
              have h9 : r[k] = x := by
                have h8 := HX.out
                rw [List.drop_eq_getElem_cons hlt] at h8
                exact (List.cons.inj h8).1
              rw [h9]
              simp [HON.out]
            go_wp2_with fail
            refine ⟨⟨k + 1, by omega, by go_num, HA2.out⟩, ?_⟩
            show r.length + 1 - ((k : Int) + 1 + 1).toNat < r.length + 1 - ((k + 1 : Nat) : Int).toNat
            omega
          | false =>
            go_wp2_with fail
            refine (h2 _).mono ?_
            rintro e w3 ⟨rfl, rfl⟩
            cases D with
            | true =>
              have HA2 : Hid ((r.take (k + 1)).all nameOn = true) := by
                show _ = _
                rw [List.take_succ_eq_append_getElem hlt, List.all_append, HA.out]
                have h9 : r[k] = x := by
                  have h8 := HX.out
                  rw [List.drop_eq_getElem_cons hlt] at h8
                  exact (List.cons.inj h8).1
                rw [h9]
                simp [HON.out]
              go_wp2_with fail
              refine ⟨⟨k + 1, by omega, by go_num, HA2.out⟩, ?_⟩
              show r.length + 1 - ((k : Int) + 1 + 1).toNat < r.length + 1 - ((k + 1 : Nat) : Int).toNat
              omega
            | false =>
              have e : N = k + 1 := by
                rw [← HN.out, named_at HC.out hk HA.out fun c2 u h => by
                  rw [HX.out] at h
                  obtain ⟨rfl, -⟩ := List.cons.inj h
                  exact HON.out]
              subst e
              go_wp2_with fail
              go_ret
              exact ⟨rfl, rfl⟩
        · obtain rfl : k = r.length := by omega
          have e : N = r.length + 1 := by rw [← HN.out, named_at HC.out (Nat.le_refl _) HA.out (fun c u h => by simp at h)]
          subst e
          go_wp2_with fail
          go_ret
          exact ⟨rfl, rfl⟩

end Go.Proofs.YtfoehfehnmhhmaaGreatDoor
