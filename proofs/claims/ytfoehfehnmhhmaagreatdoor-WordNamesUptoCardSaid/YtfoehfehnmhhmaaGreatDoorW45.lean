/-
  The walk of WordNames. Condition: lengths.
-/
import Derived.Test.YtfoehfehnmhhmaaGreatDoorW44
namespace Go.Proofs.YtfoehfehnmhhmaaGreatDoor
open Go.RowKit Go.Shelf Go.Maps

theorem set_len (l : List Wd.Bytes) (n val : Wd.Bytes) : (Wd.set l n val).length ≤ l.length + 1 := by
  cases hp : Wd.place l n with
  | some i => rw [set_some hp]; simp
  | none => rw [set_none hp]; simp

set_option maxHeartbeats 6400000 in
set_option maxRecDepth 100000 in
theorem names_any (w : World) (B : Nat) (v : Value) (l : List Wd.Bytes) (n val x : Wd.Bytes) (hv : VarsIn w B v l) (hl : l.length < 1073741820) (hn : n.length ≤ 1048576) (hval : val.length ≤ 1048576) (hx : x.length ≤ 1048576) (hg : Glo w) (h8 : 8 ≤ w.heap.size) :
    Calls Tryz.prog 4 #[v, .string ⟨n.toArray⟩, .string ⟨val.toArray⟩, .string ⟨x.toArray⟩] w fun e w' => e = .returned (.bool true) ∧ Below w.heap.size w w' := by
  have haw := awake_any w hg h8
  have HG := Lib.hid hg
  have HV := Lib.hid hv
  have hgs := Lib.hid (get_set l n val)
  have hsl := set_len l n val
  clear hg hv
  obtain ⟨S, hS⟩ : ∃ S, Wd.set l n val = S := ⟨_, rfl⟩
  rw [hS] at hsl
  have HS := Lib.hid hS
  clear hS
  go_enter Tryz.func4, Tryz.ntmps4
  go_wp2_with fail
  refine haw.mono ?_
  rintro e w1 ⟨rfl, hb1⟩
  have HB1 := Lib.hid hb1
  have HV1 := Lib.hid (HV.out.below hb1)
  clear haw hb1
  go_wp2_with (at_builtin; refine wp_append_vars rfl _ _ rfl rfl rfl HV1.out ?_; intro v2 w2 hown2 hb2)
  have hB2 := HB1.out.trans (hb2.mono HB1.out.size)
  have HB2 := Lib.hid hB2
  have HV2 := Lib.hid (HV1.out.below hb2)
  have HO2 := Lib.hid hown2
  have hget2 := get_any w2 _ n l v2 hown2.strs (Nat.le_refl _) (by omega)
  have hz2 := hB2.size
  clear hown2 hb2 hB2
  generalize hG0 : getV l n = G at *
  have HG0 := Lib.hid hG0
  clear hG0
  obtain ⟨ga, gb⟩ := G
  simp only at hget2
  go_wp2_with fail
  refine hget2.mono ?_
  rintro e w3 ⟨rfl, hb3⟩
  have hget3 := refGet_any w3 n l v B (HV2.out.below hb3).at_ (by omega)
  rw [HG0.out] at hget3
  have HB3 := Lib.hid (HB2.out.trans (hb3.mono HB2.out.size))
  have HV3 := Lib.hid (HV2.out.below hb3)
  have HO3 := Lib.hid (HO2.out.below hb3)
  clear hget2 hb3
  go_wp2_with fail
  refine hget3.mono ?_
  rintro e w4 ⟨rfl, rfl⟩
  have hset4 := Set_any w4 n val l v2 _ HO3.out.strs (by omega) (by omega)
  rw [HS.out] at hset4
  clear hget3
  go_wp2_with fail
  refine hset4.mono ?_
  rintro e w5 ⟨⟨v5, rfl, hown5⟩, hb5⟩
  have HB5 := Lib.hid (HB3.out.trans (hb5.mono HB3.out.size))
  have HV5 := Lib.hid (HV3.out.below hb5)
  have HO5 := Lib.hid (HO3.out.below hb5)
  have HL5 := Lib.hid hown5
  have hset5 := refSet_any w5 n val l v B HV5.out (by omega) (by omega)
  rw [HS.out] at hset5
  clear hset4 hown5 hb5
  go_wp2_with fail
  refine hset5.mono ?_
  rintro e w6 ⟨⟨v6, rfl, hown6⟩, hb6⟩
  have HB6 := Lib.hid (HB5.out.trans (hb6.mono HB5.out.size))
  have HV6 := Lib.hid (HV5.out.below hb6)
  have HO6 := Lib.hid (HO5.out.below hb6)
  have HL6 := Lib.hid (HL5.out.below hb6)
  have hal6 := alike_any w6 v5 v6 S (row_of_own HL6.out.own) (row_of_own hown6.own) (by omega)
  clear hset5 hown6 hb6
  go_wp2_with fail
  refine hal6.mono ?_
  rintro e w7 ⟨rfl, hb7⟩
  have HB7 := Lib.hid (HB6.out.trans (hb7.mono HB6.out.size))
  have HV7 := Lib.hid (HV6.out.below hb7)
  have HO7 := Lib.hid (HO6.out.below hb7)
  have HL7 := Lib.hid (HL6.out.below hb7)
  have hal7 := alike_any w7 v2 v l (row_of_own HO7.out.own) HV7.out.at_.row (by omega)
  clear hal6 hb7
  go_wp2_with fail
  refine hal7.mono ?_
  rintro e w8 ⟨rfl, hb8⟩
  have HB8 := Lib.hid (HB7.out.trans (hb8.mono HB7.out.size))
  have HL8 := Lib.hid (HL7.out.below hb8)
  have hget8 := get_any w8 _ n S v5 HL8.out.strs (Nat.le_refl _) (by omega)
  have hgs2 := hgs.out
  rw [HS.out] at hgs2
  rw [hgs2] at hget8
  clear hal7 hb8 hgs2
  go_wp2_with fail
  refine hget8.mono ?_
  rintro e w9 ⟨rfl, hb9⟩
  have HB9 := Lib.hid (HB8.out.trans (hb9.mono HB8.out.size))
  have has9 := Assign_any w9 x (HG.out.below HB9.out h8) (by omega)
  clear hget8 hb9
  have haAny := fun W => refAssign_any W x (by omega)
  have hp1 := fun W => Plain_any W x n (by omega)
  have hp2 := fun W => refPlain_any W x n (by omega)
  have hp3 := fun W => Plain_any W x x (by omega)
  have hp4 := fun W => refPlain_any W x x (by omega)
  have HP1 := Lib.hid hp1
  have HP2 := Lib.hid hp2
  have HP3 := Lib.hid hp3
  have HP4 := Lib.hid hp4
  clear hp1 hp2 hp3 hp4
  generalize Wd.plainly x n = P1 at *
  generalize Wd.plainly x x = P2 at *
  generalize Wd.assign x = A at *
  rcases A with _ | ⟨a1, a2⟩
  all_goals
    unfold asg at has9 haAny
    go_wp2_with fail
    refine has9.mono ?_
    rintro e w10 ⟨rfl, hb10⟩
    have HB10 := Lib.hid (HB9.out.trans (hb10.mono HB9.out.size))
    clear has9 hb10
    go_wp2_with fail
    refine (haAny _).mono ?_
    rintro e w11 ⟨rfl, hb11⟩
    have HB11 := Lib.hid (HB10.out.trans (hb11.mono HB10.out.size))
    clear haAny hb11
    go_wp2_with fail
    refine (HP1.out _).mono ?_
    rintro e w12 ⟨rfl, hb12⟩
    have HB12 := Lib.hid (HB11.out.trans (hb12.mono HB11.out.size))
    clear hb12
    go_wp2_with fail
    refine (HP2.out _).mono ?_
    rintro e w13 ⟨rfl, rfl⟩
    go_wp2_with fail
    refine (HP3.out _).mono ?_
    rintro e w14 ⟨rfl, hb14⟩
    have HB14 := Lib.hid (HB12.out.trans (hb14.mono HB12.out.size))
    clear hb14
    go_wp2_with fail
    refine (HP4.out _).mono ?_
    rintro e w15 ⟨rfl, rfl⟩
    go_wp2_with fail
    go_ret
    exact ⟨rfl, HB14.out⟩

end Go.Proofs.YtfoehfehnmhhmaaGreatDoor
