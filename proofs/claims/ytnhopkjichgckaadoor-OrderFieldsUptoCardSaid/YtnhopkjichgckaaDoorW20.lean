/-
  The walk of OrderFields. Conditions: the fields lie in memory as they are told, and are no longer than is told; the two of strconv's errors have their values.
-/
import Derived.Test.YtnhopkjichgckaaDoorW19
namespace Go.Proofs.YtnhopkjichgckaaDoor
open Go.RowKit Go.Shelf

theorem conv_at (W : World) (c : UInt8) (x : Int) (hx : x = c.toNat) :
    (convert 23 9 (.slice (some ⟨W.heap.size, 0, none⟩) 1 1)).run Tryd.prog (W.alloc (.cells #[.int .u8 x] 5)) = .ok (.string ⟨[c].toArray⟩) (W.alloc (.cells #[.int .u8 x] 5)) := by
  subst hx; exact conv_byte W c
theorem strs_one' (w : World) (s : Ord.Bytes) (v : ByteArray) (h : v = ⟨s.toArray⟩) (t : TypeId) (n : Nat) (hn : n = w.heap.size) : StrsIn (w.alloc (.cells #[.string v] t)) (some ⟨n, 0, none⟩) [s] := by
  subst h hn; exact strs_one w s t

theorem joinedL_some {L : List Ord.Bytes} {s : UInt8} (h : (Ord.joinedL L s).isEmpty = false) : Ord.joinedL L s = Ord.join s L ∧ ∀ x ∈ L, x.contains s = false := by
  unfold Ord.joinedL at h ⊢
  split at h
  · rename_i hall
    rw [if_pos hall]
    exact ⟨rfl, fun x hx => by have := List.all_eq_true.1 hall x hx; simpa using this⟩
  · cases h

theorem bytesLess_cmp : ∀ x y : Ord.Bytes, Op.bytesLess x y = decide (Ord.cmpBytes x y < 0)
  | [], [] => by simp [Op.bytesLess, Lib.compareBytes]
  | _ :: _, [] => by simp [Op.bytesLess, Lib.compareBytes]
  | [], _ :: _ => by simp [Op.bytesLess, Lib.compareBytes]
  | a :: x, b :: y => by
    have ih := bytesLess_cmp x y
    simp only [Op.bytesLess, ih]
    rw [Ord.cmpBytes_cons, Bool.eq_iff_iff]
    simp only [Bool.or_eq_true, Bool.and_eq_true, decide_eq_true_eq, beq_iff_eq, UInt8.lt_iff_toNat_lt, ← UInt8.toNat_inj]
    repeat' split
    all_goals omega

set_option maxHeartbeats 3200000 in
set_option maxRecDepth 100000 in
theorem OrderFields_any (A B : List Ord.Bytes) (pa pb : Option Addr) (ca cb : Nat) (n : Int) (s : UInt8) (w : World) (hA : StrsIn w pa A) (hB : StrsIn w pb B) (hla : A.length ≤ 1048576) (hlb : B.length ≤ 1048576) (hsa : Ord.lenAll A ≤ 1048576) (hsb : Ord.lenAll B ≤ 1048576) (hg : Glo w) (hB8 : 8 ≤ w.heap.size) :
    Calls Tryd.prog 5 #[.slice pa A.length ca, .slice pb B.length cb, .int .i64 n, .int .u8 s.toNat] w fun e w' => e = .returned (.bool true) ∧ Below w.heap.size w w' := by
  have hgl : ∀ W, Below w.heap.size w W → Glo W ∧ 8 ≤ W.heap.size := fun W h => ⟨hg.below h hB8, Nat.le_trans hB8 h.size⟩
  have hsign := sign_any
  obtain ⟨inr, hinr⟩ : ∃ inr : Bool, inr = decide (0 ≤ n ∧ n < A.length ∧ n < B.length ∧ n ≤ 8) := ⟨_, rfl⟩
  have HI := Lib.hid hinr; clear hinr
  have hAw : ∀ W, Below w.heap.size w W → StrsIn W pa A := fun W h hl => by
    obtain ⟨b, o, hp, hc⟩ := hA hl
    have hlt : b < w.heap.size := World.block_lt_of_cell? _ _ (hc 0 hl)
    exact ⟨b, o, hp, fun i hi => by rw [h.cell (p := ⟨b, o + i, none⟩) hlt]; exact hc i hi⟩
  have hBw : ∀ W, Below w.heap.size w W → StrsIn W pb B := fun W h hl => by
    obtain ⟨b, o, hp, hc⟩ := hB hl
    have hlt : b < w.heap.size := World.block_lt_of_cell? _ _ (hc 0 hl)
    exact ⟨b, o, hp, fun i hi => by rw [h.cell (p := ⟨b, o + i, none⟩) hlt]; exact hc i hi⟩
  have HAW := Lib.hid hAw; have HBW := Lib.hid hBw; clear hAw hBw hA hB
  go_enter Tryd.func5, Tryd.ntmps5
  go_wp2_with fail
  refine (awake_any w hg hB8).mono ?_
  rintro e w1 ⟨rfl, hb1⟩
  have HB1 := Lib.hid hb1; clear hb1
  go_upto_region 2 with fail
  go_cut [34] (fun s34 wx => s34 = .bool (!inr) ∧ w1 = wx)
  case first =>
    go_wp2_with fail
    all_goals
      go_meet
      refine ⟨congrArg Value.bool ?_, rfl⟩
      rw [HI.out, Bool.eq_iff_iff]
      simp
      omega
  case rest =>
    obtain ⟨rfl, rfl⟩ := hcut
    cases inr with
    | false =>
      go_wp2_with fail
      go_ret
      exact ⟨rfl, HB1.out⟩
    | true =>
      have hP := of_decide_eq_true HI.out.symm
      obtain ⟨h1, h2, h3, h4⟩ := hP
      obtain ⟨n, rfl⟩ := Int.eq_ofNat_of_zero_le h1
      clear HI
      have hnA : n < A.length := by omega
      have hnB : n < B.length := by omega
      have hn8 : n ≤ 8 := by omega
      clear h1 h2 h3 h4
      go_wp2_with fail
      refine (joined_any A pa ca s w1 (HAW.out w1 HB1.out) hla hsa).mono ?_
      rintro e w2 ⟨rfl, hb2⟩
      have HB2 := Lib.hid (HB1.out.trans (hb2.mono HB1.out.size))
      clear hb2 HB1
      go_wp2_with fail
      refine (joined_any B pb cb s w2 (HBW.out w2 HB2.out) hlb hsb).mono ?_
      rintro e w3 ⟨rfl, hb3⟩
      have HB3 := Lib.hid (HB2.out.trans (hb3.mono HB2.out.size))
      clear hb3 HB2
      cases hX : (Ord.joinedL A s).isEmpty with
      | true =>
        generalize Ord.joinedL A s = X at *
        go_wp2_with fail
        go_ret
        exact ⟨rfl, HB3.out⟩
      | false =>
      cases hY : (Ord.joinedL B s).isEmpty with
      | true =>
        generalize Ord.joinedL A s = X at *
        generalize Ord.joinedL B s = Y at *
        go_wp2_with fail
        go_ret
        exact ⟨rfl, HB3.out⟩
      | false =>
      obtain ⟨eX, gX⟩ := joinedL_some hX
      obtain ⟨eY, gY⟩ := joinedL_some hY
      have hlaw := Ord.fieldsLaw s A B n gX gY hnA hnB
      rw [← eX, ← eY] at hlaw
      have hxl : (Ord.joinedL A s).length ≤ 140737488351232 := by rw [eX]; have := Ord.join_len s A; omega
      have hyl : (Ord.joinedL B s).length ≤ 140737488351232 := by rw [eY]; have := Ord.join_len s B; omega
      clear eX eY gX gY
      generalize Ord.joinedL A s = X at *
      generalize Ord.joinedL B s = Y at *
      have hd : ((UInt8.ofNat (49 + n)).toNat : Int) = 49 + n := by simp [UInt8.toNat_ofNat']; omega
      have hread0 := Ord.read_fields s n hn8
      have hcv1 := conv_at w3 (UInt8.ofNat (49 + n)) (49 + n) hd.symm
      have hcv2 := conv_byte (w3.alloc (.cells #[.int .u8 (49 + n)] 5)) s
      rw [show (w3.alloc (.cells #[.int .u8 (49 + n)] 5)).heap.size = w3.heap.size + 1 by simp] at hcv2
      generalize UInt8.ofNat (49 + n) = d at *
      have HR0 := Lib.hid hread0; have HL := Lib.hid hlaw
      clear hread0 hlaw hd
      have hcat : (⟨#[d]⟩ : ByteArray) ++ ⟨#[44]⟩ ++ ⟨#[d]⟩ = ⟨([d, 44, d] : Ord.Bytes).toArray⟩ := by
        rw [show (⟨#[d]⟩ : ByteArray) ++ ⟨#[44]⟩ = ⟨([d, 44] : Ord.Bytes).toArray⟩ from catL [d] [44]]
        exact catL [d, 44] [d]
      have hk := strs_one' ((w3.alloc (.cells #[.int .u8 (49 + n)] 5)).alloc (.cells #[.int .u8 s.toNat] 5)) [d, 44, d] _ hcat 9 (w3.heap.size + 2) (by simp)
      have HK := Lib.hid hk
      have HCAT := Lib.hid hcat
      have hba : Below w3.heap.size w3 (((w3.alloc (.cells #[.int .u8 (49 + n)] 5)).alloc (.cells #[.int .u8 s.toNat] 5)).alloc (.cells #[.string ((⟨#[d]⟩ : ByteArray) ++ ⟨#[44]⟩ ++ ⟨#[d]⟩)] 9)) := (((Below.refl _ _).alloc (Nat.le_refl _) _).alloc (by simp) _).alloc (by simp; omega) _
      have HBA := Lib.hid hba
      clear hk hcat hba
      go_wp2_with fail
      refine (opts_is [] [s] [[d, 44, d]] [(116, [s]), (107, [d, 44, d])] rfl _ _ _ HK.out (by decide) (by simp)).mono ?_
      rintro e w4 ⟨⟨q4, c4, rfl, hol4⟩, hb4⟩
      have HB4 := Lib.hid ((HB3.out.trans (HBA.out.mono HB3.out.size)).trans (hb4.mono (Nat.le_trans HB3.out.size HBA.out.size)))
      clear hb4 HB3 HBA HK HCAT hcv1 hcv2
      go_wp2_with fail
      have hread := Read_any [(116, [s]), (107, [d, 44, d])] q4 c4 (by simp) (fun i => by rcases i with _ | _ | i <;> simp) w4 hol4 (hgl _ HB4.out).1 (hgl _ HB4.out).2
      have hfit := readAll_fit HR0.out
      unfold ReadPost at hread
      rw [HR0.out] at hread
      refine hread.mono ?_
      rintro e w5 ⟨⟨ob, rfl, hob, hoa⟩, hb5⟩
      have HB5 := Lib.hid (HB4.out.trans (hb5.mono HB4.out.size))
      have HOA := Lib.hid hoa
      clear hread hb5 HB4 hol4 hoa HR0
      obtain ⟨ba, oa, rfl, hca⟩ := (HAW.out w5 HB5.out).at (Below.refl _ _) n hnA
      obtain ⟨bb, obb, rfl, hcb⟩ := (HBW.out w5 HB5.out).at (Below.refl _ _) n hnB
      generalize A.getD n [] = xa at *
      generalize B.getD n [] = xb at *
      go_wp2_with fail
      go_quiet (fail)
      have hbq : Below w5.heap.size w5 (w5.drewN nq) := below_drewN (Below.refl _ _) _
      have hca2 : (w5.drewN nq).cell? ⟨ba, oa + n, none⟩ = some (.string ⟨xa.toArray⟩) := hca
      have hcb2 : (w5.drewN nq).cell? ⟨bb, obb + n, none⟩ = some (.string ⟨xb.toArray⟩) := hcb
      have HB6 := Lib.hid (HB5.out.trans (hbq.mono HB5.out.size))
      have HO6 := Lib.hid (HOA.out.keep hbq)
      clear hbq hca hcb HB5 HOA
      generalize w5.drewN nq = w6 at *
      have hbl := bytesLess_cmp xa xb
      have hz := Ord.cmpBytes_zero xa xb
      rcases Ord.sign_cases (Ord.cmpBytes xa xb) with ⟨hc, hwant⟩ | ⟨hc, hwant⟩ | ⟨hc, hwant⟩
      · have hbl' : Op.bytesLess xa xb = true := by rw [hbl]; simpa using hc
        have heq : (xa == xb) = false := by
          rw [beq_eq_false_iff_ne]; intro h; have := hz.2 h; omega
        clear hbl hz hc
        rw [hbl']
        go_wp2_with fail
        go_quiet (fail)
        try rw [hbl']
        try rw [heq]
        have hbq2 : Below w6.heap.size w6 (w6.drewN nq) := below_drewN (Below.refl _ _) _
        have HB7 := Lib.hid (HB6.out.trans (hbq2.mono HB6.out.size))
        have hoa7 := HO6.out.keep hbq2
        have HO7 := Lib.hid hoa7
        clear hbq2 hca2 hcb2 HB6 HO6 hoa7
        generalize w6.drewN nq = w7 at *
        obtain ⟨cx, w8, hc1, hl1, hb8, hs1⟩ := conv_facts X w7
        obtain ⟨cy, w9, hc2, hl2, hb9, hs2⟩ := conv_facts Y w8
        have hs1' := hs1.below hb9 (Nat.le_refl _)
        have hoa9 := (HO7.out.keep hb8).keep hb9
        have hkeys := Keys_any ob _ hfit.1 hfit.2.1 hfit.2.2 X Y _ _ cx cy w9 hoa9 hs1' hs2 (by simp) (by simp) hl1 hl2 hxl hyl
        simp only at hkeys
        rw [HL.out] at hkeys
        have HB9 := Lib.hid ((HB7.out.trans (hb8.mono HB7.out.size)).trans (hb9.mono (Nat.le_trans HB7.out.size hb8.size)))
        clear hs1 hs2 hs1' hoa9 hb8 hb9 HB7 HO7 HL
        generalize Ord.cmpBytes xa xb = c at *
        go_wp2_with fail
        refine hkeys.mono ?_
        rintro e w10 ⟨rfl, hb10⟩
        have HB10 := Lib.hid (HB9.out.trans (hb10.mono HB9.out.size))
        clear hb10 HB9 hkeys hc1 hc2
        go_wp2_with fail
        refine (hsign _ _).mono ?_
        rintro e w11 ⟨rfl, rfl⟩
        rw [hwant]
        go_wp2_with fail
        go_ret
        exact ⟨rfl, HB10.out⟩
      · have hbl' : Op.bytesLess xa xb = false := by rw [hbl]; simp; omega
        have heq : (xa == xb) = true := by rw [hz.1 hc]; simp
        clear hbl hz hc
        rw [hbl']
        go_wp2_with fail
        go_quiet (fail)
        try rw [hbl']
        try rw [heq]
        have hbq2 : Below w6.heap.size w6 (w6.drewN nq) := below_drewN (Below.refl _ _) _
        have HB7 := Lib.hid (HB6.out.trans (hbq2.mono HB6.out.size))
        have hoa7 := HO6.out.keep hbq2
        have HO7 := Lib.hid hoa7
        clear hbq2 hca2 hcb2 HB6 HO6 hoa7
        generalize w6.drewN nq = w7 at *
        obtain ⟨cx, w8, hc1, hl1, hb8, hs1⟩ := conv_facts X w7
        obtain ⟨cy, w9, hc2, hl2, hb9, hs2⟩ := conv_facts Y w8
        have hs1' := hs1.below hb9 (Nat.le_refl _)
        have hoa9 := (HO7.out.keep hb8).keep hb9
        have hkeys := Keys_any ob _ hfit.1 hfit.2.1 hfit.2.2 X Y _ _ cx cy w9 hoa9 hs1' hs2 (by simp) (by simp) hl1 hl2 hxl hyl
        simp only at hkeys
        rw [HL.out] at hkeys
        have HB9 := Lib.hid ((HB7.out.trans (hb8.mono HB7.out.size)).trans (hb9.mono (Nat.le_trans HB7.out.size hb8.size)))
        clear hs1 hs2 hs1' hoa9 hb8 hb9 HB7 HO7 HL
        generalize Ord.cmpBytes xa xb = c at *
        go_wp2_with fail
        refine hkeys.mono ?_
        rintro e w10 ⟨rfl, hb10⟩
        have HB10 := Lib.hid (HB9.out.trans (hb10.mono HB9.out.size))
        clear hb10 HB9 hkeys hc1 hc2
        go_wp2_with fail
        refine (hsign _ _).mono ?_
        rintro e w11 ⟨rfl, rfl⟩
        rw [hwant]
        go_wp2_with fail
        go_ret
        exact ⟨rfl, HB10.out⟩
      · have hbl' : Op.bytesLess xa xb = false := by rw [hbl]; simp; omega
        have heq : (xa == xb) = false := by
          rw [beq_eq_false_iff_ne]; intro h; have := hz.2 h; omega
        clear hbl hz hc
        rw [hbl']
        go_wp2_with fail
        go_quiet (fail)
        try rw [hbl']
        try rw [heq]
        have hbq2 : Below w6.heap.size w6 (w6.drewN nq) := below_drewN (Below.refl _ _) _
        have HB7 := Lib.hid (HB6.out.trans (hbq2.mono HB6.out.size))
        have hoa7 := HO6.out.keep hbq2
        have HO7 := Lib.hid hoa7
        clear hbq2 hca2 hcb2 HB6 HO6 hoa7
        generalize w6.drewN nq = w7 at *
        obtain ⟨cx, w8, hc1, hl1, hb8, hs1⟩ := conv_facts X w7
        obtain ⟨cy, w9, hc2, hl2, hb9, hs2⟩ := conv_facts Y w8
        have hs1' := hs1.below hb9 (Nat.le_refl _)
        have hoa9 := (HO7.out.keep hb8).keep hb9
        have hkeys := Keys_any ob _ hfit.1 hfit.2.1 hfit.2.2 X Y _ _ cx cy w9 hoa9 hs1' hs2 (by simp) (by simp) hl1 hl2 hxl hyl
        simp only at hkeys
        rw [HL.out] at hkeys
        have HB9 := Lib.hid ((HB7.out.trans (hb8.mono HB7.out.size)).trans (hb9.mono (Nat.le_trans HB7.out.size hb8.size)))
        clear hs1 hs2 hs1' hoa9 hb8 hb9 HB7 HO7 HL
        generalize Ord.cmpBytes xa xb = c at *
        go_wp2_with fail
        refine hkeys.mono ?_
        rintro e w10 ⟨rfl, hb10⟩
        have HB10 := Lib.hid (HB9.out.trans (hb10.mono HB9.out.size))
        clear hb10 HB9 hkeys hc1 hc2
        go_wp2_with fail
        refine (hsign _ _).mono ?_
        rintro e w11 ⟨rfl, rfl⟩
        rw [hwant]
        go_wp2_with fail
        go_ret
        exact ⟨rfl, HB10.out⟩

end Go.Proofs.YtnhopkjichgckaaDoor
