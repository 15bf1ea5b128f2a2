/-
  The walk of the reference's Text of a set; and of any node. Condition: the node lies in memory, and what it is told as is no longer than memory allows.
-/
import Derived.Test.YthdkbbkkijdhfaaGreatDoorW29
namespace Go.Proofs.YthdkbbkkijdhfaaGreatDoor
open Go.RowKit Go.Shelf Go.Maps Go.Sort

/-- What the loop of a set keeps. -/
structure RtIn (h : Rx.Has) (w wr : World) (c : Nat) (done : List Rx.Bytes) (f : Nat) : Prop where
  bel : Below w.heap.size w wr
  le : c ≤ 256
  len : done.length ≤ c
  fuel : 256 - c < f
  short : (Rx.sepBy [44] done).length ≤ 2000
  eq : Hid (Rx.rangesF h 257 0 = done ++ Rx.rangesF h f c)

/-- What stands between. -/
def sepOf (done : List Rx.Bytes) : Rx.Bytes := if done = [] then [] else [44]
theorem sepOf_le (done : List Rx.Bytes) : (sepOf done).length ≤ 1 := by unfold sepOf; split <;> simp

theorem sepBy_short (h : Rx.Has) (done : List Rx.Bytes) (f c : Nat) (hd : Rx.rangesF h 257 0 = done ++ Rx.rangesF h f c) : (Rx.sepBy [44] done).length ≤ 2000 := by
  have h1 := rangesF_short h 257 0
  have h2 := rangesF_count h 257 0
  rw [hd] at h1 h2
  have h3 := sepBy_len [44] 5 done (fun x hx => h1 x (by simp [hx]))
  have h4 : done.length ≤ 257 := by simp at h2; omega
  have : done.length * (5 + 1) ≤ 257 * 6 := Nat.mul_le_mul h4 (by decide)
  simp only [List.length_cons, List.length_nil] at h3
  omega

set_option maxHeartbeats 3200000 in
set_option maxRecDepth 100000 in
theorem rtext_set (p : Nat) (h : Rx.Has) (w : World) (hb : Blk w p (setCells h) 68) : RTextC (.set h) p w := by
  have I : RtIn h w w 0 [] 257 := ⟨Below.refl _ _, Nat.zero_le _, Nat.zero_le _, by omega, by simp [Rx.sepBy], rfl⟩
  have c0 := hb.cell 0 (nd_kind _ _ _ _ _)
  have hplt := hb.lt
  have HB0 := Lib.hid hb
  have e : (Rx.Nd.set h).told = Rx.ranges h := by simp [Rx.Nd.told]
  unfold RTextC
  rw [e]
  clear hb e
  go_enter Tryz.func20, Tryz.ntmps20
  go_wp2_with fail
  go_loopw [3, 4, 5, 6] (fun x3 x4 x5 _x6 wr => ∃ (c : Nat) (done : List Rx.Bytes) (f : Nat), x3 = .string ⟨(Rx.sepBy [44] done).toArray⟩ ∧ x4 = .string ⟨(sepOf done).toArray⟩ ∧ x5 = .int .i64 c ∧ RtIn h w wr c done f) (fun _ _ x5 _ _ => 256 - (intOf x5).toNat)
  case atStart => exact ⟨0, [], 257, rfl, rfl, rfl, I⟩
  case round =>
    clear I
    obtain ⟨c, done, f, rfl, rfl, rfl, I⟩ := hrel
    have hle := I.le
    have hnd : Blk wr p (setCells h) 68 := HB0.out.keep I.bel hplt
    obtain ⟨f, rfl⟩ : ∃ g, f = g + 1 := ⟨f - 1, by have := I.fuel; omega⟩
    by_cases hc : c < 256
    · have c1 := hnd.cell (1 + c) (nd_has _ _ _ _ _ c hc)
      have HI := Lib.hid I
      cases hh : h (UInt8.ofNat c) with
      | false =>
        rw [hh] at c1
        have HE := Lib.hid (I.eq.out.trans (by rw [rangesF_out h f c hc hh]))
        clear I hh hnd
        go_wp2_with fail
        refine ⟨⟨c + 1, done, f, rfl, rfl, by go_num, HI.out.bel, by omega, by have := HI.out.len; omega, by have := HI.out.fuel; omega, HI.out.short, HE⟩, ?_⟩
        show 256 - ((c : Int) + 1).toNat < 256 - (c : Int).toNat
        omega
      | true =>
        rw [hh] at c1
        have HE := Lib.hid (I.eq.out.trans (by rw [rangesF_in h f c hc hh]))
        have hend := runEnd_le h 256 c (by omega)
        have hge := runEnd_ge h 256 c
        clear I hh
        generalize hEE : Rx.runEnd h 256 c = E at HE hend hge
        have HR := Lib.hid hEE
        clear hEE
        have hcd : decide ((c : Int) < 256) = true := by simp; omega
        go_wp2_with fail
        try simp only [hcd]
        go_loopw [6] (fun x6 wx => wx = wr ∧ ∃ k g : Nat, x6 = .int .i64 k ∧ c ≤ k ∧ k ≤ 255 ∧ 255 - k < g ∧ Hid (Rx.runEnd h g k = E)) (fun x6 _ => 256 - (intOf x6).toNat)
        case atStart => exact ⟨rfl, c, 256, rfl, Nat.le_refl _, by omega, by omega, HR⟩
        case round =>
          obtain ⟨rfl, k, g, rfl, hck, hk255, hg, HK⟩ := hrel
          obtain ⟨g, rfl⟩ : ∃ q, g = q + 1 := ⟨g - 1, by omega⟩
          go_upto_region 16 with fail
          go_cut [32, 33, 34, 35, 36, 37, 38, 39, 40, 41, 42] (fun _ _ _ _ _ _ _ _ _ _ s42 wx => s42 = .bool (decide (k < 255) && h (UInt8.ofNat (k + 1))) ∧ wx = wr)
          case first =>
            by_cases hlt : k < 255
            · have c2 := hnd.cell (1 + (k + 1)) (nd_has _ _ _ _ _ (k + 1) (by omega))
              have H1 : Hid (decide (k < 255) = true) := by show _ = _; simpa using hlt
              have hlt2 : (k : Int) < 255 := by omega
              generalize h (UInt8.ofNat (k + 1)) = y at *
              go_wp2_with fail
              go_meet
              exact ⟨by rw [H1.out, Bool.true_and], rfl⟩
            · have H1 : Hid (decide (k < 255) = false) := by show _ = _; simpa using hlt
              have hlt2 : ¬ (k : Int) < 255 := by omega
              go_wp2_with fail
              go_meet
              exact ⟨by rw [H1.out, Bool.false_and], rfl⟩
          case rest =>
            obtain ⟨rfl, rfl⟩ := hcut
            cases hon : decide (k < 255) && h (UInt8.ofNat (k + 1)) with
            | true =>
              have hcon : k < 255 ∧ h (UInt8.ofNat (k + 1)) = true := by simpa using hon
              have HK2 : Hid (Rx.runEnd h g (k + 1) = E) := by
                have := HK.out
                rw [Rx.runEnd, if_pos hcon] at this
                exact this
              have hk1 := hcon.1
              clear hon hcon HK
              go_wp2_with fail
              refine ⟨⟨trivial, k + 1, g, by go_num, by omega, by omega, by omega, HK2⟩, ?_⟩
              show 256 - ((k : Int) + 1).toNat < 256 - (k : Int).toNat
              omega
            | false =>
              have hEk : E = k := by
                have := HK.out
                rw [Rx.runEnd, if_neg (fun hcon => by rw [decide_eq_true hcon.1, hcon.2] at hon; cases hon)] at this
                exact this.symm
              subst hEk
              have hsh := HI.out.short
              have hsl := sepOf_le done
              have ht := rtwo_any c hc wc
              have hl1 := two_len c hc
              have hl2 := two_len E (by omega)
              have HSN : Hid (∀ x, Rx.sepBy [44] (done ++ [x]) = Rx.sepBy [44] done ++ (sepOf done ++ x)) := fun x => by rw [sepBy_snoc, List.append_assoc]; rfl
              have hlen := HI.out.len
              have hfuel := HI.out.fuel
              have HT : Hid (runText c E = if c < E then Rx.two c ++ 45 :: Rx.two E else Rx.two c) := rfl
              have HT2 : Hid (∀ w, Calls Tryz.prog 39 #[.int .i64 E] w fun e w' => e = .returned (.string ⟨(Rx.two E).toArray⟩) ∧ Below w.heap.size w w') := fun w => rtwo_any E (by omega) w
              have HSH := Lib.hid (sepBy_short h (done ++ [runText c E]) f (E + 1) (by rw [HE.out]; simp))
              generalize Rx.two c = t1 at *
              generalize Rx.two E = t2 at *
              obtain ⟨A, hA⟩ : ∃ A, A = Rx.sepBy [44] done := ⟨_, rfl⟩
              obtain ⟨S, hS⟩ : ∃ S, S = sepOf done := ⟨_, rfl⟩
              rw [← hA] at hsh
              rw [← hS] at hsl
              rw [← hA, ← hS] at HSN ⊢
              clear hA hS hon HK
              have l1 : (9223372036854775807 < A.length + S.length) = False := by simp; omega
              have l2 : (9223372036854775807 < A.length + (S.length + t1.length)) = False := by simp; omega
              have l3 : (9223372036854775807 < A.length + S.length + t1.length) = False := by simp; omega
              have l4 : (9223372036854775807 < A.length + (S.length + t1.length) + 1) = False := by simp; omega
              have l5 : (9223372036854775807 < A.length + (S.length + (t1.length + 1)) + t2.length) = False := by simp; omega
              have e1 : (⟨A.toArray⟩ : ByteArray) ++ ⟨S.toArray⟩ = ⟨(A ++ S).toArray⟩ := by apply ByteArray.ext; simp
              have e2 : (⟨(A ++ S).toArray⟩ : ByteArray) ++ ⟨t1.toArray⟩ = ⟨(A ++ (S ++ t1)).toArray⟩ := by apply ByteArray.ext; simp
              have e3 : (⟨(A ++ (S ++ t1)).toArray⟩ : ByteArray) ++ ⟨#[45]⟩ = ⟨(A ++ (S ++ (t1 ++ [45]))).toArray⟩ := by apply ByteArray.ext; simp
              have e4 : (⟨(A ++ (S ++ (t1 ++ [45]))).toArray⟩ : ByteArray) ++ ⟨t2.toArray⟩ = ⟨(A ++ (S ++ (t1 ++ 45 :: t2))).toArray⟩ := by apply ByteArray.ext; simp
              by_cases hgt : c < E
              · rw [if_pos hgt] at HT
                go_wp2_with fail
                refine ht.mono ?_
                rintro e w3 ⟨rfl, hb3⟩
                have hw3 := HT2.out w3
                go_wp2_with fail
                refine hw3.mono ?_
                rintro e w4 ⟨rfl, hb4⟩
                have HB4 : Hid (Below w.heap.size w w4) := HI.out.bel.trans ((hb3.trans (hb4.mono hb3.size)).mono HI.out.bel.size)
                clear hb3 hb4 hw3 ht
                go_wp2_with fail
                refine ⟨⟨E + 1, done ++ [runText c E], f, by rw [HSN.out, HT.out], by simp [sepOf], by go_num, HB4.out, by omega, by simp; omega, by omega, HSH.out, by show _ = _; rw [HE.out]; simp⟩, ?_⟩
                show 256 - ((E : Int) + 1).toNat < 256 - (c : Int).toNat
                omega
              · rw [if_neg hgt] at HT
                go_wp2_with fail
                refine ht.mono ?_
                rintro e w3 ⟨rfl, hb3⟩
                have HB4 : Hid (Below w.heap.size w w3) := HI.out.bel.trans (hb3.mono HI.out.bel.size)
                clear hb3 ht
                go_wp2_with fail
                refine ⟨⟨E + 1, done ++ [runText c E], f, by rw [HSN.out, HT.out], by simp [sepOf], by go_num, HB4.out, by omega, by simp; omega, by omega, HSH.out, by show _ = _; rw [HE.out]; simp⟩, ?_⟩
                show 256 - ((E : Int) + 1).toNat < 256 - (c : Int).toNat
                omega
    · obtain rfl : c = 256 := by omega
      have hd : Rx.rangesF h 257 0 = done := by
        have := I.eq.out
        rw [rangesF_end] at this
        simpa using this
      have HD : Hid (Rx.ranges h = 60 :: Rx.sepBy [44] done ++ [62]) := by show _ = _; unfold Rx.ranges; rw [hd]
      have hsl2 := I.short
      have HBW := Lib.hid I.bel
      generalize Rx.sepBy [44] done = tx at *
      have e1 : (⟨#[60]⟩ : ByteArray) ++ ⟨tx.toArray⟩ = ⟨(60 :: tx).toArray⟩ := by apply ByteArray.ext; simp
      have e2 : (⟨(60 :: tx).toArray⟩ : ByteArray) ++ ⟨#[62]⟩ = ⟨(60 :: tx ++ [62]).toArray⟩ := by apply ByteArray.ext; simp
      clear I hd hnd
      go_wp2_with fail
      go_ret
      refine ⟨?_, HBW.out⟩
      rw [HD.out]
      rfl

theorem rtext_any {M : Nat → Prop} {w : World} {p : Nat} {n : Rx.Nd} (h : RnIn w M p n) : ∀ w', Below w.heap.size w w' → n.told.length ≤ 140737488355000 → RTextC n p w' := by
  induction h with
  | empty hp hb => intro w' hw _; exact rtext_empty _ w' (hb.keep hw hb.lt)
  | set hp hb => intro w' hw _; exact rtext_set _ _ w' (hb.keep hw hb.lt)
  | beg hp hb => intro w' hw _; exact rtext_beg _ w' (hb.keep hw hb.lt)
  | fin hp hb => intro w' hw _; exact rtext_fin _ w' (hb.keep hw hb.lt)
  | cat hp hb h0 hc hk' hl hps _ ih =>
    intro w' hw hlen
    refine rtext_list _ _ _ 4 .cat .cat _ _ w' (hb.keep hw hb.lt) hc hl (hps.kept (Kept.of_below (S := fun _ => False) hw) id) (fun i hi w'' hw'' => ?_) hlen
    refine ih i hi w'' (hw.trans (hw''.mono hw.size)) ?_
    rw [tolds_get _ i hi]
    have h2 := mem_sepBy [] _ _ (tolds_mem _ i hi)
    simp only [Rx.Nd.told, List.length_append, List.length_cons, List.length_nil] at hlen
    omega
  | alt hp hb h0 hc hk' hl hps _ ih =>
    intro w' hw hlen
    refine rtext_list _ _ _ 5 .alt .alt _ _ w' (hb.keep hw hb.lt) hc hl (hps.kept (Kept.of_below (S := fun _ => False) hw) id) (fun i hi w'' hw'' => ?_) hlen
    refine ih i hi w'' (hw.trans (hw''.mono hw.size)) ?_
    rw [tolds_get _ i hi]
    have h2 := mem_sepBy [124] _ _ (tolds_mem _ i hi)
    simp only [Rx.Nd.told, List.length_append, List.length_cons, List.length_nil] at hlen
    omega
  | rep hp hb hk' hps _ hm ih =>
    intro w' hw hlen
    have hl2 : ∀ (m : Nat) (most : Int) (n : Rx.Nd), n.told.length ≤ (Rx.Nd.rep m most n).told.length := fun m most n => by
      simp only [Rx.Nd.told, List.length_append]; omega
    have hl3 := Nat.le_trans (hl2 _ _ _) hlen
    exact rtext_rep _ _ _ _ _ _ _ w' (hb.keep hw hb.lt) (hps.kept (Kept.of_below (S := fun _ => False) hw) id) hm (fun w'' hw'' => ih w'' (hw.trans (hw''.mono hw.size)) hl3) hl3

end Go.Proofs.YthdkbbkkijdhfaaGreatDoor
