/-
  The walks of the reference's Name and Get. Condition: lengths.
-/
import Derived.Test.YtfoehfehnmhhmaaGreatDoorW37
namespace Go.Proofs.YtfoehfehnmhhmaaGreatDoor
open Go.RowKit Go.Shelf Go.Maps

theorem first_any (c : UInt8) (w : World) : Calls Tryz.prog 48 #[.int .u8 c.toNat] w fun e w' => e = .returned (.bool (Wd.head c)) ∧ w' = w := by
  have HL := Lib.hid (head_nat c)
  generalize Wd.head c = R at *
  generalize c.toNat = n at *
  go_enter Tryz.func48, Tryz.ntmps48
  go_wp2_with fail
  all_goals go_ret
  all_goals
    refine ⟨ret_bool ?_, rfl⟩
    rw [HL.out]
    first | (simp [*]; done) | (simp [*]; omega) | (rw [Bool.eq_iff_iff]; simp; omega)
theorem letter_any (c : UInt8) (w : World) : Calls Tryz.prog 47 #[.int .u8 c.toNat] w fun e w' => e = .returned (.bool (nameOn c)) ∧ w' = w := by
  have hf := first_any c w
  have HL := Lib.hid (digit_nat c)
  have HN : Hid (nameOn c = (Wd.head c || Wd.digit c)) := rfl
  generalize nameOn c = R at *
  generalize Wd.digit c = D at *
  generalize Wd.head c = H at *
  generalize c.toNat = n at *
  go_enter Tryz.func47, Tryz.ntmps47
  go_wp2_with (go_at_call 48; refine hf.mono ?_; rintro e w' ⟨rfl, rfl⟩)
  all_goals go_ret
  all_goals
    refine ⟨ret_bool ?_, rfl⟩
    rw [HN.out, HL.out]
    first | (simp [*]; done) | (simp [*]; omega) | (rw [Bool.eq_iff_iff]; simp [*]; omega)

set_option maxHeartbeats 1600000 in
set_option maxRecDepth 100000 in
theorem Name_any (s : Wd.Bytes) (hl : s.length < 1073741824) (w : World) : Calls Tryz.prog 27 #[.string ⟨s.toArray⟩] w fun e w' => e = .returned (.int .i64 (Wd.named s : Nat)) ∧ w' = w := by
  cases s with
  | nil =>
    go_enter Tryz.func27, Tryz.ntmps27
    go_wp2_with fail
    go_loop [3] (fun x3 => x3 = .int .i64 0) (fun _ => 0)
    case atStart => exact rfl
    case round =>
      subst hrel
      go_wp2_with fail
      go_ret
      exact ⟨rfl, rfl⟩
  | cons c r =>
    have hfa := first_any c
    have is0 : ∀ h, (⟨(c :: r).toArray⟩ : ByteArray)[0]'h = c := fun _ => rfl
    have hln : (c :: r).length = r.length + 1 := by simp
    have hlt0 : 0 < (c :: r).length := by simp
    cases hh : Wd.head c with
    | false =>
      have hn : Wd.named (c :: r) = 0 := by rw [named_cons, if_neg (by rw [hh]; decide)]
      rw [hn]
      have hla := letter_any c
      rw [hh] at hfa
      clear hn hh
      generalize nameOn c = b at *
      generalize (c :: r) = S at *
      have h1 : (0 : Int) < (S.length : Int) := by omega
      go_enter Tryz.func27, Tryz.ntmps27
      go_wp2_with fail
      go_loop [3] (fun x3 => x3 = .int .i64 0) (fun _ => 0)
      case atStart => exact rfl
      case round =>
        subst hrel
        cases b
        all_goals go_wp2_with (first | (go_at_call 47; refine (hla _).mono ?_; rintro e w' ⟨rfl, rfl⟩) | (go_at_call 48; refine (hfa _).mono ?_; rintro e w' ⟨rfl, rfl⟩))
        all_goals
          go_ret
          exact ⟨rfl, rfl⟩
    | true =>
      rw [hh] at hfa
      obtain ⟨N, hN⟩ : ∃ N, Wd.named (c :: r) = N := ⟨_, rfl⟩
      have HN := Lib.hid hN
      rw [hN]
      have HH := Lib.hid hh
      clear hN hh
      have h1 : (0 : Int) < ((c :: r).length : Int) := by omega
      obtain ⟨S, hS⟩ : ∃ S, S = c :: r := ⟨_, rfl⟩
      have HS := Lib.hid hS
      clear hln
      rw [← hS] at HN is0 hlt0 hl h1 ⊢
      clear hS
      go_enter Tryz.func27, Tryz.ntmps27
      go_wp2_with fail
      go_loop [3] (fun x3 => ∃ k : Nat, k ≤ S.length ∧ x3 = .int .i64 k ∧ Hid ((S.take k).all nameOn = true)) (fun x3 => S.length - (intOf x3).toNat)
      case atStart => exact ⟨0, Nat.zero_le _, rfl, rfl⟩
      case round =>
        obtain ⟨k, hk, rfl, HA⟩ := hrel
        have HEND : Hid (∀ _ : (∀ d u, S.drop k = d :: u → nameOn d = false), N = k) := by
          intro hstop
          have hS := HS.out
          cases k with
          | zero =>
            have := hstop c r (by rw [hS]; rfl)
            simp [nameOn, HH.out] at this
          | succ k =>
            rw [← HN.out]
            have hA := HA.out
            rw [hS] at hstop hA ⊢
            refine named_at HH.out (by have : k + 1 ≤ (c :: r).length := by rw [← hS]; exact hk
                                       simp at this; omega) ?_ hstop
            rw [List.take_succ_cons, List.all_cons] at hA
            exact (Bool.and_eq_true_iff.1 hA).2
        by_cases hlt : k < S.length
        · have ik : (k : Int) < (S.length : Int) := by omega
          obtain ⟨d, hd, id⟩ := byte_at hlt
          have hla := letter_any d
          cases hb : nameOn d with
          | true =>
            have HA2 : Hid ((S.take (k + 1)).all nameOn = true) := by
              show _ = _
              have h3 : S[k] = d := by
                rw [List.drop_eq_getElem_cons hlt] at hd
                exact (List.cons.inj hd).1
              rw [List.take_succ_eq_append_getElem hlt, List.all_append, HA.out, h3]
              simp [hb]
            rw [hb] at hla
            clear hb hd HEND
            by_cases hk0 : 0 < k
            · have hk1 : (0 : Int) < (k : Int) := by omega
              go_wp2_with (first | (go_at_call 47; refine (hla _).mono ?_; rintro e w' ⟨rfl, rfl⟩) | (go_at_call 48; refine (hfa _).mono ?_; rintro e w' ⟨rfl, rfl⟩))
              go_round
              case rel => exact ⟨k + 1, by omega, by go_num, HA2⟩
              case measure => simp [intOf]; omega
            · have hk1 : ¬ (0 : Int) < (k : Int) := by omega
              go_wp2_with (first | (go_at_call 47; refine (hla _).mono ?_; rintro e w' ⟨rfl, rfl⟩) | (go_at_call 48; refine (hfa _).mono ?_; rintro e w' ⟨rfl, rfl⟩))
              go_round
              case rel => exact ⟨k + 1, by omega, by go_num, HA2⟩
              case measure => simp [intOf]; omega
          | false =>
            have HE : Hid (N = k) := HEND.out fun d2 u h => by rw [hd] at h; rw [← (List.cons.inj h).1]; exact hb
            rw [hb] at hla
            clear hb hd HEND
            go_wp2_with (first | (go_at_call 47; refine (hla _).mono ?_; rintro e w' ⟨rfl, rfl⟩) | (go_at_call 48; refine (hfa _).mono ?_; rintro e w' ⟨rfl, rfl⟩))
            go_ret
            exact ⟨by rw [HE.out]; rfl, rfl⟩
        · have HE : Hid (N = k) := HEND.out fun d2 u h => by
            rw [List.drop_eq_nil_of_le (by omega)] at h; cases h
          clear HEND
          go_wp2_with fail
          go_ret
          exact ⟨by rw [HE.out]; rfl, rfl⟩

/-- A variable's own text: the name, a sign, and what is behind. -/
theorem pre_iff (n v : Wd.Bytes) : Wd.pre (n ++ [61]) v = true ↔ n.length < v.length ∧ v.take n.length = n ∧ v[n.length]? = some 61 := by
  constructor
  · intro h
    obtain ⟨t, rfl⟩ := List.isPrefixOf_iff_prefix.1 h
    refine ⟨by simp, by simp, by simp⟩
  · rintro ⟨h1, h2, h3⟩
    refine List.isPrefixOf_iff_prefix.2 ⟨v.drop (n.length + 1), ?_⟩
    have h4 : v.drop n.length = 61 :: v.drop (n.length + 1) := by
      rw [List.drop_eq_getElem_cons h1]
      rw [List.getElem?_eq_getElem h1] at h3
      rw [Option.some.inj h3]
    have h5 : n ++ [61] ++ v.drop (n.length + 1) = v.take n.length ++ (61 :: v.drop (n.length + 1)) := by rw [h2]; simp
    rw [h5, ← h4, List.take_append_drop]

theorem place_at {l : List Wd.Bytes} {n : Wd.Bytes} {i : Nat} (hi : i < l.length) (hb : ∀ j, j < i → Wd.pre (n ++ [61]) (l.getD j []) = false) (h : Wd.pre (n ++ [61]) (l.getD i []) = true) : Wd.place l n = some i := by
  have := placeV_at hi hb h
  unfold placeV at this
  cases hx : Wd.place l n with
  | none => rw [hx] at this; simp at this
  | some k =>
    rw [hx] at this
    have h2 : (k : Int) = (i : Int) := this
    rw [show k = i by omega]
theorem place_no {l : List Wd.Bytes} {n : Wd.Bytes} (hb : ∀ j, j < l.length → Wd.pre (n ++ [61]) (l.getD j []) = false) : Wd.place l n = none := by
  have := placeV_none hb
  unfold placeV at this
  cases hx : Wd.place l n with
  | none => rfl
  | some k => rw [hx] at this; simp at this

/-- How a variable's text is no other's. -/
inductive NotHis (n v : Wd.Bytes) : Prop where
  | short (h : ¬ (n.length : Int) < (v.length : Int)) (h2 : ¬ n.length < v.length)
  | other (T : Wd.Bytes) (h : (n.length : Int) < (v.length : Int)) (h2 : n.length < v.length) (ht : (⟨v.toArray⟩ : ByteArray).extract 0 n.length = ⟨T.toArray⟩) (hne : (T == n) = false) (hne2 : ¬ T = n)
  | byte (d : UInt8) (h : (n.length : Int) < (v.length : Int)) (h2 : n.length < v.length) (ht : (⟨v.toArray⟩ : ByteArray).extract 0 n.length = ⟨n.toArray⟩) (hd : ∀ h, (⟨v.toArray⟩ : ByteArray)[n.length]'h = d) (hne : ¬ (d.toNat : Int) = 61)
theorem notHis {n v : Wd.Bytes} (h : Wd.pre (n ++ [61]) v = false) : NotHis n v := by
  by_cases h1 : n.length < v.length
  · by_cases h2 : v.take n.length = n
    · obtain ⟨d, hd, hb⟩ := byte_at h1
      refine .byte d (by omega) h1 (by rw [extr_take, h2]) hb fun e => ?_
      have hd61 : d = 61 := UInt8.toNat_inj.1 (by have : d.toNat = 61 := by omega
                                                  rw [this]; rfl)
      have h3 : v[n.length]? = some 61 := by
        rw [List.drop_eq_getElem_cons h1] at hd
        rw [List.getElem?_eq_getElem h1, (List.cons.inj hd).1, hd61]
      rw [(pre_iff n v).2 ⟨h1, h2, h3⟩] at h
      cases h
    · exact .other (v.take n.length) (by omega) h1 (extr_take v _) (beq_eq_false_iff_ne.2 h2) h2
  · exact .short (by omega) h1
/-- How it is his. -/
structure His (n v : Wd.Bytes) : Prop where
  h : (n.length : Int) < (v.length : Int)
  h2 : n.length < v.length
  ht : (⟨v.toArray⟩ : ByteArray).extract 0 n.length = ⟨n.toArray⟩
  hd : ∀ h, (⟨v.toArray⟩ : ByteArray)[n.length]'h = 61
  hr : (⟨v.toArray⟩ : ByteArray).extract (n.length + 1) v.length = ⟨(v.drop (n.length + 1)).toArray⟩
  h3 : (n.length : Int) + 1 ≤ (v.length : Int)
theorem his {n v : Wd.Bytes} (h : Wd.pre (n ++ [61]) v = true) : His n v := by
  obtain ⟨h1, h2, h3⟩ := (pre_iff n v).1 h
  obtain ⟨d, hd, hb⟩ := byte_at h1
  have : d = 61 := by
    rw [List.drop_eq_getElem_cons h1] at hd
    rw [List.getElem?_eq_getElem h1, (List.cons.inj hd).1] at h3
    exact Option.some.inj h3
  exact ⟨by omega, h1, by rw [extr_take, h2], by rw [← this]; exact hb, extract_from v _, by omega⟩

set_option maxHeartbeats 3200000 in
set_option maxRecDepth 100000 in
theorem refGet_any (w : World) (n : Wd.Bytes) (l : List Wd.Bytes) (v : Value) (B : Nat) (hv : StrsAt w B v l) (hn : n.length < 1073741824) :
    Calls Tryz.prog 8 #[v, .string ⟨n.toArray⟩] w fun e w' => e = .returned (.tuple #[.string ⟨(getV l n).1.toArray⟩, .bool (getV l n).2]) ∧ w' = w := by
  have hrow := hv.row
  obtain ⟨p, c, rfl, hc⟩ := hrow
  have HC := Lib.hid hc
  have HV := Lib.hid hv
  have hlen := hv.len
  clear hc hv
  obtain ⟨G, hG⟩ : ∃ G, getV l n = G := ⟨_, rfl⟩
  have HG := Lib.hid hG
  rw [hG]
  clear hG
  obtain ⟨N, hN⟩ : ∃ N, l.length = N := ⟨_, rfl⟩
  have HN := Lib.hid hN
  rw [hN] at hlen ⊢
  clear hN
  go_enter Tryz.func8, Tryz.ntmps8
  go_wp2_with fail
  go_loop [6, 7] (fun x6 _ => ∃ i : Nat, i ≤ N ∧ x6 = .int .i64 i ∧ Hid (∀ j, j < i → Wd.pre (n ++ [61]) (l.getD j []) = false)) (fun x6 _ => N - (intOf x6).toNat)
  case atStart => exact ⟨0, Nat.zero_le _, rfl, fun j hj => absurd hj (Nat.not_lt_zero j)⟩
  case round =>
    obtain ⟨i, hi, rfl, HB⟩ := hrel
    by_cases hlt : i < N
    · have ic : (i : Int) < (N : Int) := by omega
      obtain ⟨g, o, rfl, k1⟩ := HC.out i (by rw [HN.out]; exact hlt)
      have hvl : (l.getD i []).length < 1073741824 := by
        refine HV.out.each _ ?_
        rw [List.getD_eq_getElem?_getD, List.getElem?_eq_getElem (by rw [HN.out]; exact hlt)]
        exact List.getElem_mem _
      cases hp : Wd.pre (n ++ [61]) (l.getD i []) with
      | true =>
        have HG2 : Hid (G = ((l.getD i []).drop (n.length + 1), true)) := by
          show _ = _
          rw [← HG.out]
          exact getV_some (place_at (by rw [HN.out]; exact hlt) HB.out hp)
        obtain ⟨h1, h2, h3, h4, h5, h6⟩ := his hp
        clear hp
        generalize l.getD i [] = t at *
        go_wp2_with fail
        go_ret2
        exact ⟨by rw [HG2.out]; rfl, rfl⟩
      | false =>
        have HB2 : Hid (∀ j, j < i + 1 → Wd.pre (n ++ [61]) (l.getD j []) = false) := by
          intro j hj
          by_cases h : j = i
          · rw [h]; exact hp
          · exact HB.out j (by omega)
        have hnh := notHis hp
        clear hp
        generalize hgd : l.getD i [] = t at *
        clear hgd
        rcases hnh with ⟨h, h2⟩ | ⟨T, h, h2, ht, hne, hne2⟩ | ⟨d, h, h2, ht, hd, hne⟩
        all_goals
          go_wp2_with fail
          go_round
          case rel => exact ⟨i + 1, by omega, by go_num, HB2⟩
          case measure => simp [intOf]; omega
    · obtain rfl : N = i := by omega
      have HG2 : Hid (G = ([], false)) := by
        show _ = _
        rw [← HG.out]
        exact getV_none (place_no (by rw [HN.out]; exact HB.out))
      go_wp2_with fail
      go_ret2
      exact ⟨by rw [HG2.out]; rfl, rfl⟩

end Go.Proofs.YtfoehfehnmhhmaaGreatDoor
