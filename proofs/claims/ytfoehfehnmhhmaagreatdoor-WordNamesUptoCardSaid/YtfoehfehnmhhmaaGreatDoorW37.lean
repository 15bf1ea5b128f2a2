/-
  The walk of WordCuts. Condition: lengths.
-/
import Derived.Test.YtfoehfehnmhhmaaGreatDoorW36
import Derived.Test.YtfoehfehnmhhmaaGreatDoorCutLaw
namespace Go.Proofs.YtfoehfehnmhhmaaGreatDoor
open Go.RowKit Go.Shelf Go.Maps

def okB (c : UInt8) : Prop := (97 ≤ c.toNat ∧ c.toNat ≤ 122) ∨ c.toNat = 46
theorem digits_step : ∀ m : Nat, m < 256 → Wd.digits m = (if m / 10 = 0 then [] else Wd.digits (m / 10)) ++ [UInt8.ofNat (48 + m % 10)] := by decide +kernel
def restD (m : Nat) : Wd.Bytes := if m = 0 then [] else Wd.digits m
theorem restD_step {m : Nat} (h : m < 256) (h0 : 0 < m) : restD m = restD (m / 10) ++ [UInt8.ofNat (48 + m % 10)] := by
  unfold restD
  rw [if_neg (by omega), digits_step m h]
theorem rows_one {w : World} (A : Wd.Bytes) (h : A.length < 1073741824) : StrsAt (w.alloc (.cells #[.string ⟨A.toArray⟩] 9)) (w.heap.size + 1) (.slice (some ⟨w.heap.size, 0, none⟩) 1 1) [A] := by
  have := strs_new w [A] (by simp) (by simpa using h)
  rwa [show (w.alloc (.cells ([A].map strV).toArray 9)).heap.size = w.heap.size + 1 by simp] at this

/-- What stands between the calls of Value. -/
structure CutsIn (w W : World) (q : Nat) (A : Wd.Bytes) : Prop where
  below : Below w.heap.size w W
  glo : Glo W
  size : q + 1 < W.heap.size
  w8 : 8 ≤ W.heap.size
  strs : StrsAt W (q + 1) (.slice (some ⟨q, 0, none⟩) 1 1) [A]
  scope : Blk W (q + 1) #[.slice (some ⟨q, 0, none⟩) 1 1, .slice none 0 0, .int .i64 0] 25
theorem CutsIn.keep {w W W' : World} {q : Nat} {A : Wd.Bytes} (h : CutsIn w W q A) (hb : Below W.heap.size W W') : CutsIn w W' q A :=
  ⟨h.below.trans (hb.mono h.below.size), h.glo.below hb h.w8, Nat.lt_of_lt_of_le h.size hb.size, Nat.le_trans h.w8 hb.size, h.strs.below hb, h.scope.keep hb h.scope.lt⟩
theorem CutsIn.value {w W : World} {q : Nat} {A s u : Wd.Bytes} (h : CutsIn w W q A) (hs : s.length < 1073741824) (hv : Wd.valueOf [A] [] 0 s = some u) :
    Calls Tryz.prog 6 #[.string ⟨s.toArray⟩, .agg #[.slice (some ⟨q, 0, none⟩) 1 1, .slice none 0 0, .int .i64 0]] W fun e w' => (∃ v2, e = .returned (.tuple #[.string ⟨u.toArray⟩, v2, .int .i64 0])) ∧ CutsIn w w' q A :=
  (Value_any W _ _ _ [A] [] 0 s u h.strs ⟨by simp, by simp, .inl ⟨rfl, none, 0, rfl⟩⟩ h.glo h.w8 hs hv).mono fun e w' ⟨h1, h2⟩ => ⟨h1, h.keep h2⟩

set_option maxHeartbeats 12800000 in
set_option maxRecDepth 100000 in
theorem cuts_any (a b : Wd.Bytes) (ha : a.length ≤ 1048576) (hb : b.length ≤ 1048576) (w : World) (hg : Glo w) (h8 : 8 ≤ w.heap.size) :
    Calls Tryz.prog 3 #[.string ⟨a.toArray⟩, .string ⟨b.toArray⟩] w fun e w' => e = .returned (.bool true) ∧ Below w.heap.size w w' := by
  have haw := awake_any w hg h8
  have HG := Lib.hid hg
  clear hg
  by_cases hlen : 200 < a.length + b.length
  · have h1 : (200 : Int) < (a.length : Int) + (b.length : Int) := by omega
    go_enter Tryz.func3, Tryz.ntmps3
    go_wp2_with fail
    refine haw.mono ?_
    rintro e w1 ⟨rfl, hb1⟩
    have HB1 := Lib.hid hb1
    clear hb1 haw
    go_wp2_with fail
    go_ret
    exact ⟨rfl, HB1.out⟩
  · have h1 : ¬ (200 : Int) < (a.length : Int) + (b.length : Int) := by omega
    have h2 : a.length + b.length ≤ 200 := by omega
    clear hlen ha hb
    go_enter Tryz.func3, Tryz.ntmps3
    go_wp2_with fail
    refine haw.mono ?_
    rintro e w1 ⟨rfl, hb1⟩
    have HB1 := Lib.hid hb1
    have HG1 := Lib.hid (HG.out.below hb1 h8)
    have hs1 := hb1.size
    clear hb1 haw
    go_wp2_with fail
    go_loop [6, 7] (fun x6 _ => ∃ (i : Nat), i ≤ a.length + b.length ∧ x6 = .int .i64 i ∧ Hid (∀ j, j < i → okB ((a ++ b).getD j 0))) (fun x6 _ => a.length + b.length - (intOf x6).toNat)
    case atStart => exact ⟨0, Nat.zero_le _, rfl, fun j hj => absurd hj (Nat.not_lt_zero j)⟩
    case round =>
      obtain ⟨i, hi, rfl, HOK⟩ := hrel
      by_cases hlt : i < a.length + b.length
      · have ic : (i : Int) < (a.length : Int) + (b.length : Int) := by omega
        have HNEXT : Hid (∀ c, (a ++ b).getD i 0 = c → okB c → ∀ j, j < i + 1 → okB ((a ++ b).getD j 0)) := by
          intro c hc hok j hj
          by_cases h : j = i
          · rw [h, hc]; exact hok
          · exact HOK.out j (by omega)
        by_cases hia : i < a.length
        · have ia : (i : Int) < (a.length : Int) := by omega
          obtain ⟨c, hc, ix⟩ := byte_at hia
          have hcc : (a ++ b).getD i 0 = c := by
            have h3 : a[i] = c := by
              rw [List.drop_eq_getElem_cons hia] at hc
              exact (List.cons.inj hc).1
            rw [← h3, List.getD_eq_getElem?_getD, List.getElem?_append_left hia, List.getElem?_eq_getElem hia]; rfl
          have HCC := Lib.hid hcc
          clear hc hcc
          go_wp2_with fail
          all_goals first
            | (go_ret; exact ⟨rfl, HB1.out⟩)
            | (go_round
               case rel => exact ⟨i + 1, by omega, by go_num, HNEXT.out c HCC.out (by first | (unfold okB; omega) | (have h9 := ‹(!((c.toNat : Int) == 46)) = false›; simp at h9; unfold okB; omega))⟩
               case measure => simp [intOf]; omega)
        · have hka : i - a.length < b.length := by omega
          obtain ⟨k, hk⟩ : ∃ k, k = i - a.length := ⟨_, rfl⟩
          rw [← hk] at hka
          obtain ⟨c, hc, ix⟩ := byte_at hka
          have hcc : (a ++ b).getD i 0 = c := by
            have h3 : b[k] = c := by
              rw [List.drop_eq_getElem_cons hka] at hc
              exact (List.cons.inj hc).1
            rw [← h3, List.getD_eq_getElem?_getD, List.getElem?_append_right (by omega), ← hk, List.getElem?_eq_getElem hka]; rfl
          have HCC := Lib.hid hcc
          have k1 : (i : Int) - (a.length : Int) = (k : Int) := by omega
          have ia : ¬ (i : Int) < (a.length : Int) := by omega
          have kb : (k : Int) < (b.length : Int) := by omega
          clear hc hcc hk
          go_wp2_with fail
          all_goals first
            | (go_ret; exact ⟨rfl, HB1.out⟩)
            | (go_round
               case rel => exact ⟨i + 1, by omega, by go_num, HNEXT.out c HCC.out (by first | (unfold okB; omega) | (have h9 := ‹(!((c.toNat : Int) == 46)) = false›; simp at h9; unfold okB; omega))⟩
               case measure => simp [intOf]; omega)
      · obtain rfl : i = a.length + b.length := by omega
        have hall : ∀ c ∈ a ++ b, okB c := by
          intro c hc
          obtain ⟨j, hj, rfl⟩ := List.getElem_of_mem hc
          have := HOK.out j (by rw [← List.length_append]; exact hj)
          rwa [List.getD_eq_getElem?_getD, List.getElem?_eq_getElem hj] at this
        have hne : ∀ (n : UInt8), n = 47 ∨ n = 42 → ∀ c ∈ a ++ b, c ≠ n := by
          rintro n hn c hc rfl
          have := hall c hc
          rcases hn with rfl | rfl <;> (unfold okB at this; revert this; decide)
        have ha47 : ∀ c ∈ a, c ≠ 47 := fun c hc => hne 47 (.inl rfl) c (by simp [hc])
        have hb47 : ∀ c ∈ b, c ≠ 47 := fun c hc => hne 47 (.inl rfl) c (by simp [hc])
        have ha42 : ∀ c ∈ a, c ≠ 42 := fun c hc => hne 42 (.inr rfl) c (by simp [hc])
        have hb42 : ∀ c ∈ b, c ≠ 42 := fun c hc => hne 42 (.inr rfl) c (by simp [hc])
        have V1 := Lib.hid (Wd.value_1 a b ha47 hb47 h2)
        have V2 := Lib.hid (Wd.value_2 a b ha47 hb47 h2)
        have V3 := Lib.hid (Wd.value_3 a b h2 ha42 hb42)
        have V4 := Lib.hid (Wd.value_4 a b ha47 hb47 h2)
        have V5 := Lib.hid (Wd.value_5 a b h2)
        have V6 := Lib.hid (Wd.value_6 a b h2)
        clear hall hne ha47 hb47 ha42 hb42 HOK
        obtain ⟨A1, hA1⟩ : ∃ A, A = 86 :: 61 :: a := ⟨_, rfl⟩
        obtain ⟨A2, hA2⟩ : ∃ A, A = A1 ++ [47] := ⟨_, rfl⟩
        obtain ⟨A3, hA3⟩ : ∃ A, A = A2 ++ b := ⟨_, rfl⟩
        obtain ⟨A4, hA4⟩ : ∃ A, A = 88 :: 61 :: b := ⟨_, rfl⟩
        have s1 : (⟨#[86, 61]⟩ : ByteArray) ++ ⟨a.toArray⟩ = ⟨A1.toArray⟩ := by rw [hA1]; apply ByteArray.ext; simp
        have s2 : (⟨A1.toArray⟩ : ByteArray) ++ ⟨#[47]⟩ = ⟨A2.toArray⟩ := by rw [hA2]; apply ByteArray.ext; simp
        have s3 : (⟨A2.toArray⟩ : ByteArray) ++ ⟨b.toArray⟩ = ⟨A3.toArray⟩ := by rw [hA3]; apply ByteArray.ext; simp
        have s4 : (⟨#[88, 61]⟩ : ByteArray) ++ ⟨b.toArray⟩ = ⟨A4.toArray⟩ := by rw [hA4]; apply ByteArray.ext; simp
        have l1 : A1.length = a.length + 2 := by rw [hA1]; simp
        have l2 : A2.length = a.length + 3 := by rw [hA2]; simp [l1]
        have l3 : A3.length = a.length + b.length + 3 := by rw [hA3]; simp [l2]; omega
        have l4 : A4.length = b.length + 2 := by rw [hA4]; simp
        have E3 : Hid (86 :: 61 :: Wd.valV a b = A3) := by show _ = _; rw [hA3, hA2, hA1]; simp [Wd.valV]
        have E4 := Lib.hid hA4
        have m1 : A1.length ≤ 300 := by omega
        have m2 : A2.length ≤ 300 := by omega
        have m3 : A3.length ≤ 300 := by omega
        have m4 : A4.length ≤ 300 := by omega
        clear hA1 hA2 hA3 hA4 l1 l2 l3 l4
        have C0 : CutsIn w ((w1.alloc (.cells #[.string ⟨A3.toArray⟩] 9)).alloc (.cells #[.slice (some ⟨w1.heap.size, 0, none⟩) 1 1, .slice none 0 0, .int .i64 0] 25)) w1.heap.size A3 := by
          have hb2 : Below w1.heap.size w1 ((w1.alloc (.cells #[.string ⟨A3.toArray⟩] 9)).alloc (.cells #[.slice (some ⟨w1.heap.size, 0, none⟩) 1 1, .slice none 0 0, .int .i64 0] 25)) := ((Below.refl _ _).alloc (Nat.le_refl _) _).alloc (by simp) _
          have hsc := Blk.new (w1.alloc (.cells #[.string ⟨A3.toArray⟩] 9)) #[.slice (some ⟨w1.heap.size, 0, none⟩) 1 1, .slice none 0 0, .int .i64 0] 25
          rw [show (w1.alloc (.cells #[.string ⟨A3.toArray⟩] 9)).heap.size = w1.heap.size + 1 by simp] at hsc
          exact ⟨HB1.out.trans (hb2.mono hs1), HG1.out.below hb2 (by omega), by simp, by simp; omega, (rows_one A3 (by omega)).below ((Below.refl _ _).alloc (Nat.le_refl _) _), hsc⟩
        have HC0 := Lib.hid C0
        clear C0
        go_wp2_with fail
        generalize (w1.alloc (.cells #[.string ⟨A3.toArray⟩] 9)).alloc (.cells #[.slice (some ⟨w1.heap.size, 0, none⟩) 1 1, .slice none 0 0, .int .i64 0] 25) = W0 at *
        have hv0 := HC0.out.value (s := [36, 123, 86, 37, 47, 42, 125]) (by decide) (by rw [← E3.out]; exact V1.out)
        refine hv0.mono ?_
        rintro e W1 ⟨⟨r0, rfl⟩, hc1⟩
        have HC1 := Lib.hid hc1
        have x1 := hc1.scope.cell 0 rfl
        have y1 := hc1.scope.cell 1 rfl
        have z1 := hc1.scope.cell 2 rfl
        clear hv0 hc1
        have hv1 := HC1.out.value (s := [36, 123, 86, 35, 42, 47, 125]) (by decide) (by rw [← E3.out]; exact V2.out)
        go_wp2_with fail
        clear x1 y1 z1
        refine hv1.mono ?_
        rintro e W2 ⟨⟨r1, rfl⟩, hc2⟩
        have HC2 := Lib.hid hc2
        have x2 := hc2.scope.cell 0 rfl
        have y2 := hc2.scope.cell 1 rfl
        have z2 := hc2.scope.cell 2 rfl
        clear hv1 hc2
        have hv2 := HC2.out.value (s := [36, 123, 86, 37, 39, 47, 42, 39, 125]) (by decide) (by rw [← E3.out]; exact V3.out)
        go_wp2_with fail
        clear x2 y2 z2
        refine hv2.mono ?_
        rintro e W3 ⟨⟨r2, rfl⟩, hc3⟩
        have HC3 := Lib.hid hc3
        have x3 := hc3.scope.cell 0 rfl
        have y3 := hc3.scope.cell 1 rfl
        have z3 := hc3.scope.cell 2 rfl
        clear hv2 hc3
        have hv3 := HC3.out.value (s := [36, 123, 86, 35, 35, 42, 47, 125, 36, 123, 86, 37, 37, 47, 42, 125, 36, 123, 86, 37, 37, 42, 125, 36, 123, 86, 35, 35, 42, 125]) (by decide) (by rw [← E3.out]; exact V4.out)
        go_wp2_with fail
        clear x3 y3 z3
        refine hv3.mono ?_
        rintro e W4 ⟨⟨r3, rfl⟩, hc4⟩
        have HC4 := Lib.hid hc4
        have x4 := hc4.scope.cell 0 rfl
        have y4 := hc4.scope.cell 1 rfl
        have z4 := hc4.scope.cell 2 rfl
        clear hv3 hc4
        have hv4 := HC4.out.value (s := [36, 123, 35, 86, 125]) (by decide) (by rw [← E3.out]; exact V5.out)
        go_wp2_with fail
        clear x4 y4 z4
        refine hv4.mono ?_
        rintro e W5 ⟨⟨r4, rfl⟩, hc5⟩
        have HC5 := Lib.hid hc5
        have x5 := hc5.scope.cell 0 rfl
        have y5 := hc5.scope.cell 1 rfl
        have z5 := hc5.scope.cell 2 rfl
        clear hv4 hc5
        have HV6 : Hid (Wd.valueOf [A3, [87, 61], A4] [] 0 [36, 123, 86, 37, 34, 36, 87, 47, 36, 88, 34, 125] = some a) := by
          show _ = _
          rw [← E3.out, E4.out]; exact V6.out
        have hb6 : Below W5.heap.size W5 (W5.alloc (.cells #[.string ⟨A3.toArray⟩, .string ⟨#[87, 61]⟩, .string ⟨A4.toArray⟩] 9)) := (Below.refl _ _).alloc (Nat.le_refl _) _
        have hst6 := strs_new W5 [A3, [87, 61], A4] (by simp) (by simp; omega)
        have hv6 := Value_any (W5.alloc (.cells #[.string ⟨A3.toArray⟩, .string ⟨#[87, 61]⟩, .string ⟨A4.toArray⟩] 9)) _ (.slice (some ⟨W5.heap.size, 0, none⟩) 3 3) (.slice none 0 0) [A3, [87, 61], A4] [] 0 _ a hst6 ⟨by simp, by simp, .inl ⟨rfl, none, 0, rfl⟩⟩ (HC5.out.glo.below hb6 HC5.out.w8) (by have := HC5.out.w8; simp; omega) (by decide) HV6.out
        have HB6 := Lib.hid ((HC5.out.keep hb6).below)
        clear hst6 hb6
        go_wp2_with fail
        refine hv6.mono ?_
        rintro e W6 ⟨⟨r6, rfl⟩, hb7⟩
        have HB7 := Lib.hid (HB6.out.trans (hb7.mono HB6.out.size))
        clear hv6 hb7 x5 y5 z5
        obtain ⟨N, hN⟩ : ∃ N, N = a.length + b.length + 1 := ⟨_, rfl⟩
        have hN1 : (a.length : Int) + (b.length : Int) + 1 = (N : Int) := by omega
        have hN2 : N ≤ 201 := by omega
        have HD : Hid (restD N = Wd.digits (a.length + b.length + 1)) := by show _ = _; unfold restD; rw [if_neg (by omega), hN]
        generalize Wd.digits (a.length + b.length + 1) = D at *
        clear hN
        go_wp2_with fail
        go_loopw [27, 28] (fun x27 x28 wr => ∃ (m : Nat) (want : Wd.Bytes), m ≤ N ∧ x28 = .int .i64 m ∧ x27 = .string ⟨want.toArray⟩ ∧ Hid (restD m ++ want = D) ∧ want.length + m ≤ 300 ∧ Hid (Below w.heap.size w wr)) (fun _ x28 _ => (intOf x28).toNat)
        case atStart => exact ⟨N, [], Nat.le_refl _, rfl, rfl, by show _ = _; rw [List.append_nil]; exact HD.out, by simp; omega, HB7.out⟩
        case round =>
          obtain ⟨m, want, hm, rfl, rfl, HW, hwl, HB⟩ := hrel
          by_cases hm0 : 0 < m
          · have hm1 : (0 : Int) < (m : Int) := by omega
            obtain ⟨d, hd⟩ : ∃ d, d = m % 10 := ⟨_, rfl⟩
            have hd1 : (m : Int) % 10 = (d : Int) := by omega
            have hd2 : d < 10 := by omega
            obtain ⟨c, hc⟩ : ∃ c, c = UInt8.ofNat (48 + d) := ⟨_, rfl⟩
            have hc1 : 48 + (d : Int) = (c.toNat : Int) := by rw [hc]; simp; omega
            have hstep := restD_step (m := m) (by omega) hm0
            rw [← hd, ← hc] at hstep
            have HW2 : Hid (restD (m / 10) ++ ([c] ++ want) = D) := by
              show _ = _
              rw [← HW.out, hstep, List.append_assoc]
            have hcv : (convert 29 9 (.slice (some ⟨wr.heap.size, 0, none⟩) 1 1)).run Tryz.prog (wr.alloc (.cells #[.int .u8 c.toNat] 5)) = .ok (.string ⟨#[c]⟩) (wr.alloc (.cells #[.int .u8 c.toNat] 5)) := run_str (bs_one wr c 5) 1
            have hlw : want.length ≤ 300 := by omega
            have es : (⟨#[c]⟩ : ByteArray) ++ ⟨want.toArray⟩ = ⟨([c] ++ want).toArray⟩ := by apply ByteArray.ext; simp
            have hdd : m / 10 < m := by omega
            clear hc hd hstep
            have HBN := Lib.hid (HB.out.alloc HB.out.size (.cells #[.int .u8 c.toNat] 5))
            go_wp2_with fail
            go_roundw
            case rel => exact ⟨m / 10, [c] ++ want, by omega, rfl, rfl, HW2.out, by simp; omega, HBN.out⟩
            case measure => simp [intOf]; omega
          · obtain rfl : m = 0 := by omega
            have hwD : want = D := HW.out
            subst hwD
            have t1 : (⟨a.toArray⟩ : ByteArray) ++ ⟨#[47]⟩ = ⟨(a ++ [47]).toArray⟩ := by apply ByteArray.ext; simp
            have t2 : (⟨(a ++ [47]).toArray⟩ : ByteArray) ++ ⟨b.toArray⟩ = ⟨(Wd.valV a b).toArray⟩ := by apply ByteArray.ext; simp [Wd.valV]
            have t3 : (⟨b.toArray⟩ : ByteArray) ++ ⟨a.toArray⟩ = ⟨(b ++ a).toArray⟩ := by apply ByteArray.ext; simp
            have t4 : (a ++ [47]).length ≤ 300 := by simp; omega
            generalize a ++ [47] = A5 at *
            generalize Wd.valV a b = A6 at *
            generalize b ++ a = A7 at *
            go_wp2_with fail
            go_ret
            exact ⟨rfl, HB.out⟩

end Go.Proofs.YtfoehfehnmhhmaaGreatDoor
