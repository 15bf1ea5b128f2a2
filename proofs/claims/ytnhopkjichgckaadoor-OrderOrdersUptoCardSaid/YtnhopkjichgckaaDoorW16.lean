/-
  The walk of OrderOrders. Conditions: what came in lies in memory as it is told; the two of strconv's errors have their values.
-/
import Derived.Test.YtnhopkjichgckaaDoorW15
import Derived.Test.YtnhopkjichgckaaDoorLaw
namespace Go.Proofs.YtnhopkjichgckaaDoor
open Go.RowKit Go.Shelf

set_option maxHeartbeats 3200000 in
set_option maxRecDepth 100000 in
theorem OrderOrders_any (l : List Ord.Opt) (a b c : Ord.Bytes) (pl pa pb pc : Option Addr) (cl ca cb cc : Nat) (w : World) (ho : OptsIn w pl l) (hg : Glo w) (hB : 8 ≤ w.heap.size) (hl : l.length ≤ 5864062014805) (harg : ∀ i, (l.getD i (0, [])).2.length ≤ 140737488351232)
    (ha : Bs w pa a) (hb : Bs w pb b) (hc : Bs w pc c) (hpa : pa = none → ca = 0) (hpb : pb = none → cb = 0) (hpc : pc = none → cc = 0) (hca : a.length ≤ ca) (hcb : b.length ≤ cb) (hcc : c.length ≤ cc)
    (hla : a.length ≤ 140737488351232) (hlb : b.length ≤ 140737488351232) (hlc : c.length ≤ 140737488351232) :
    Calls Tryd.prog 3 #[.slice pl l.length cl, .slice pa a.length ca, .slice pb b.length cb, .slice pc c.length cc] w fun e w' => e = .returned (.bool true) ∧ Below w.heap.size w w' := by
  have hsign := sign_any
  go_enter Tryd.func3, Tryd.ntmps3
  go_wp2_with fail
  refine (awake_any w hg hB).mono ?_
  rintro e w1 ⟨rfl, hb1⟩
  go_wp2_with fail
  have hread := Read_any l pl cl hl harg w1 (ho.below hb1 (Nat.le_refl _)) (hg.below hb1 hB) (Nat.le_trans hB hb1.size)
  unfold ReadPost at hread
  cases hr : Ord.readAll l with
  | none =>
    rw [hr] at hread
    simp only at hread
    refine hread.mono ?_
    rintro e w2 ⟨rfl, hb2⟩
    have hbw := hb1.trans (hb2.mono hb1.size)
    clear hread hr hb1 hb2
    go_wp2_with fail
    go_ret
    exact ⟨rfl, hbw⟩
  | some o =>
    rw [hr] at hread
    simp only at hread
    refine hread.mono ?_
    rintro e w2 ⟨⟨ob, rfl, hob, hoa⟩, hb2⟩
    obtain ⟨hf1, hf2, hf3⟩ := readAll_fit hr
    have hbw := hb1.trans (hb2.mono hb1.size)
    have HO2 := Lib.hid hoa
    have HB2 := Lib.hid hbw
    clear hread hr hb1 hb2 hoa hbw
    have hcmp : ∀ W W0, OrderAt W0 ob o → Below w.heap.size w W0 → Below W0.heap.size W0 W → ∀ (x y : Ord.Bytes) (p q : Option Addr) (c d : Nat), Bs w p x → Bs w q y → (p = none → c = 0) → (q = none → d = 0) → x.length ≤ c → y.length ≤ d → x.length ≤ 140737488351232 → y.length ≤ 140737488351232 →
        (Calls Tryd.prog 9 #[.pointer (some ⟨ob, 0, none⟩), .slice p x.length c, .slice q y.length d] W fun e w' => e = .returned (.int .i64 (Ord.compare o x y)) ∧ Below W0.heap.size W0 w') ∧
        (Calls Tryd.prog 10 #[.pointer (some ⟨ob, 0, none⟩), .slice p x.length c, .slice q y.length d] W fun e w' => e = .returned (.int .i64 (Ord.keysCmp o.sep x y o.keys)) ∧ Below W0.heap.size W0 w') := by
      intro W W0 h1 h2 h3 x y p q c d hx hy hp hq h4 h5 h6 h7
      have hbb := h2.trans (h3.mono h2.size)
      have hxx := hx.below hbb (Nat.le_refl _)
      have hyy := hy.below hbb (Nat.le_refl _)
      exact ⟨(Compare_any ob o hf1 hf2 hf3 x y p q c d W (h1.keep h3) hxx hyy hp hq h4 h5 h6 h7).mono fun e w' ⟨h8, h9⟩ => ⟨h8, h3.trans (h9.mono h3.size)⟩,
        (Keys_any ob o hf1 hf2 hf3 x y p q c d W (h1.keep h3) hxx hyy hp hq h4 h5 h6 h7).mono fun e w' ⟨h8, h9⟩ => ⟨h8, h3.trans (h9.mono h3.size)⟩⟩
    have hab := fun W h => hcmp W w2 HO2.out HB2.out h a b pa pb ca cb ha hb hpa hpb hca hcb hla hlb
    have hba := fun W h => (hcmp W w2 HO2.out HB2.out h b a pb pa cb ca hb ha hpb hpa hcb hca hlb hla).1
    have hbc := fun W h => hcmp W w2 HO2.out HB2.out h b c pb pc cb cc hb hc hpb hpc hcb hcc hlb hlc
    have hac := fun W h => hcmp W w2 HO2.out HB2.out h a c pa pc ca cc ha hc hpa hpc hca hcc hla hlc
    have hlaw := Ord.ordersLaw o a b c
    have hsa := fun W (h : Below w2.heap.size w2 W) => run_str ((ha.below HB2.out (Nat.le_refl _)).below h (Nat.le_refl _)) ca
    have hsb := fun W (h : Below w2.heap.size w2 W) => run_str ((hb.below HB2.out (Nat.le_refl _)).below h (Nat.le_refl _)) cb
    clear hcmp hf1 hf2 hf3 ho harg ha hb hc hg
    have HAB := Lib.hid hab; have HBA := Lib.hid hba; have HBC := Lib.hid hbc; have HAC := Lib.hid hac
    have HSA := Lib.hid hsa; have HSB := Lib.hid hsb
    clear hab hba hbc hac hsa hsb
    generalize Ord.compare o a b = nab at *
    generalize Ord.compare o b a = nba at *
    generalize Ord.compare o b c = nbc at *
    generalize Ord.compare o a c = nac at *
    generalize Ord.keysCmp o.sep a b o.keys = kab at *
    generalize Ord.keysCmp o.sep b c o.keys = kbc at *
    generalize Ord.keysCmp o.sep a c o.keys = kac at *
    go_wp2_with fail
    refine (HAB.out w2 (Below.refl _ _)).1.mono ?_
    rintro e w3 ⟨rfl, hb3⟩
    go_wp2_with fail
    refine (hsign _ _).mono ?_
    rintro e w3' ⟨rfl, rfl⟩
    go_wp2_with fail
    refine (HBA.out w3 hb3).mono ?_
    rintro e w4 ⟨rfl, hb4⟩
    clear hb3
    go_wp2_with fail
    refine (hsign _ _).mono ?_
    rintro e w4' ⟨rfl, rfl⟩
    go_wp2_with fail
    refine (HBC.out w4 hb4).1.mono ?_
    rintro e w5 ⟨rfl, hb5⟩
    clear hb4
    go_wp2_with fail
    refine (hsign _ _).mono ?_
    rintro e w5' ⟨rfl, rfl⟩
    go_wp2_with fail
    refine (HAC.out w5 hb5).1.mono ?_
    rintro e w6 ⟨rfl, hb6⟩
    clear hb5
    go_wp2_with fail
    refine (hsign _ _).mono ?_
    rintro e w6' ⟨rfl, rfl⟩
    go_wp2_with fail
    refine (HAB.out w6 hb6).2.mono ?_
    rintro e w7 ⟨rfl, hb7⟩
    clear hb6
    go_wp2_with fail
    refine (hsign _ _).mono ?_
    rintro e w7' ⟨rfl, rfl⟩
    go_wp2_with fail
    refine (HBC.out w7 hb7).2.mono ?_
    rintro e w8 ⟨rfl, hb8⟩
    clear hb7
    go_wp2_with fail
    refine (hsign _ _).mono ?_
    rintro e w8' ⟨rfl, rfl⟩
    go_wp2_with fail
    refine (HAC.out w8 hb8).2.mono ?_
    rintro e w9 ⟨rfl, hb9⟩
    clear hb8
    go_wp2_with fail
    refine (hsign _ _).mono ?_
    rintro e w9' ⟨rfl, rfl⟩
    have hra := HSA.out w9 hb9
    have hrb := HSB.out w9 hb9
    have HBW := Lib.hid (HB2.out.trans (hb9.mono HB2.out.size))
    clear hb9 HSA HSB
    have hbab : -1 ≤ Ord.sign nab ∧ Ord.sign nab ≤ 1 := by have := Ord.sign_cases nab; omega
    generalize Ord.sign nab = ab at *
    generalize Ord.sign nba = ba at *
    generalize Ord.sign nbc = bc at *
    generalize Ord.sign nac = ac at *
    generalize Ord.sign kab = kab' at *
    generalize Ord.sign kbc = kbc' at *
    generalize Ord.sign kac = kac' at *
    obtain ⟨l1, l2, l3, l4, l5, l6⟩ := hlaw
    obtain rfl : ba = -ab := by omega
    clear l1
    have L2 := Lib.hid l2; have L3 := Lib.hid l3; have L4 := Lib.hid l4; have L5 := Lib.hid l5; have L6 := Lib.hid l6
    clear l2 l3 l4 l5 l6
    go_upto_region 12 with fail
    go_cut [97] (fun s97 wx => s97 = .bool false ∧ w9 = wx)
    case first =>
      by_cases hsame : a = b
      · subst hsame
        have h0 : ab = 0 := L2.out.2 rfl
        subst h0
        have hk0 : kab' = 0 := by
          by_cases h : kab' = 0
          · exact h
          · have := L3.out h; omega
        subst hk0
        go_wp2_with fail
        go_meet
        exact ⟨rfl, rfl⟩
      · have h0 : ab ≠ 0 := by intro h; exact hsame (L2.out.1 h)
        have h0' : (ab == 0) = false := by simpa using h0
        have h0'' : (ab != 0) = true := by simpa using h0
        by_cases hk : kab' = 0
        · subst hk
          clear h0
          go_wp2_with fail
          go_meet
          exact ⟨rfl, rfl⟩
        · obtain rfl : kab' = ab := L3.out hk
          clear h0 hk
          go_wp2_with fail
          go_meet
          exact ⟨rfl, rfl⟩
    case rest =>
      obtain ⟨rfl, rfl⟩ := hcut
      go_upto_region 14 with fail
      go_cut [16, 17, 131] (fun _s16 _s17 s131 wx => s131 = .bool false ∧ w9 = wx)
      case first =>
        clear hsign hra hrb hpa hpb hpc
        go_wp2_with fail
        all_goals
          have h4 := L4.out
          have h5 := L5.out
          have h6 := L6.out
          first
            | (exfalso; omega)
            | (go_meet
               refine ⟨congrArg Value.bool ?_, rfl⟩
               first | rfl | (simp; omega))
      case rest =>
        obtain ⟨rfl, rfl⟩ := hcut
        go_wp2_with fail
        go_ret
        exact ⟨rfl, HBW.out⟩

end Go.Proofs.YtnhopkjichgckaaDoor
