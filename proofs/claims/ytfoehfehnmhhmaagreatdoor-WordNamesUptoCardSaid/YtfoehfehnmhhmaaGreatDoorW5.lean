/-
  The walk of piece, and with upto's, both for any fuel. No condition.
-/
import Derived.Test.YtfoehfehnmhhmaaGreatDoorW4
namespace Go.Proofs.YtfoehfehnmhhmaaGreatDoor
open Go.RowKit Go.Shelf

theorem u8_nat {c : UInt8} {n : Nat} (h : n < 256) : ((c.toNat : Int) = (n : Int)) ↔ c = UInt8.ofNat n := by
  constructor
  · intro e
    apply UInt8.toNat_inj.1
    rw [UInt8.toNat_ofNat_of_lt' h]
    omega
  · intro e
    rw [e, UInt8.toNat_ofNat_of_lt' h]

theorem extract_two (s : Wd.Bytes) : (⟨s.toArray⟩ : ByteArray).extract 2 s.length = ⟨(s.drop 2).toArray⟩ := extract_drop s 2

theorem u8_lit {c : UInt8} {n : Nat} (h : ¬ c = UInt8.ofNat n) (hn : n < 256) : ¬ ((c.toNat : Int) = (n : Int)) := fun e => h ((u8_nat hn).1 e)

set_option maxHeartbeats 6400000 in
set_option maxRecDepth 100000 in
theorem piece_any (f : Nat) (hU : ∀ g, g < f → UptoC g) : PieceC f := by
  intro s inq hs hl hne w
  cases f with
  | zero => exact absurd rfl hne
  | succ g =>
    cases s with
    | nil => exact absurd rfl hs
    | cons c r =>
      have HU2 := Lib.hid (hU g (by omega))
      clear hU
      have i0 : ∀ h, (⟨(c :: r).toArray⟩ : ByteArray)[0]'h = c := fun _ => rfl
      have hll : ((c :: r).length : Int) = (r.length : Int) + 1 := by simp
      have hlr : (c :: r).length = r.length + 1 := by simp
      have ex1 : (⟨(c :: r).toArray⟩ : ByteArray).extract 1 (c :: r).length = ⟨r.toArray⟩ := extract_drop (c :: r) 1
      have ex1' : (⟨(c :: r).toArray⟩ : ByteArray).extract 1 (r.length + 1) = ⟨r.toArray⟩ := extract_drop (c :: r) 1
      have ex2 : (⟨(c :: r).toArray⟩ : ByteArray).extract 2 (c :: r).length = ⟨((c :: r).drop 2).toArray⟩ := extract_drop (c :: r) 2
      have ex2' : (⟨(c :: r).toArray⟩ : ByteArray).extract 2 (r.length + 1) = ⟨((c :: r).drop 2).toArray⟩ := extract_drop (c :: r) 2
      have hrl : r.length < 1073741824 := by simp at hl; omega
      have hd2 : ((c :: r).drop 2).length < 1073741824 := by simp; omega
      have hp1 := hasPrefix_any (c :: r) [36, 123]
      have hp2 := hasPrefix_any (c :: r) [36, 40]
      have hi := indexByte_any r 39
      obtain ⟨R, hR⟩ : ∃ R, Wd.piece (g + 1) (c :: r) inq = R := ⟨_, rfl⟩
      rw [hR] at hne ⊢
      rw [Wd.piece.eq_def] at hR
      simp only at hR
      have HNE := Lib.hid hne
      clear hne hs hl
      by_cases h1 : c = 92
      · rw [if_pos h1] at hR
        subst h1
        have HR := Lib.hid hR.symm
        clear hR
        go_enter Tryz.func34, Tryz.ntmps34
        go_wp2_with fail
        go_ret
        refine ⟨?_, rfl⟩
        rw [HR.out]
        simp only [ResI]
        congr 2
        show Value.int .i64 (min 2 ((r.length : Int) + 1)) = .int .i64 ((min 2 (r.length + 1) : Nat) : Int)
        congr 1
        omega
      · rw [if_neg h1] at hR
        have h1' : ¬ ((c.toNat : Int) = 92) := u8_lit h1 (by decide)
        clear h1
        by_cases h2 : c = 39 ∧ inq = false
        · rw [if_pos h2] at hR
          obtain ⟨rfl, rfl⟩ := h2
          cases hx : Wd.idx 39 r with
          | none =>
            rw [hx] at hi hR
            have HR := Lib.hid hR.symm
            clear hR hx
            go_enter Tryz.func34, Tryz.ntmps34
            go_wp2_with fail
            refine (hi _).mono ?_
            rintro e w1 ⟨rfl, rfl⟩
            go_wp2_with fail
            refine (fail_any _ _).mono ?_
            rintro e w2 ⟨rfl, rfl⟩
            go_wp2_with fail
            exact ⟨rfl, ResI.fail HR.out, rfl⟩
          | some n =>
            rw [hx] at hi hR
            have hnl := idx_lt hx
            have HR := Lib.hid hR.symm
            clear hR hx
            go_enter Tryz.func34, Tryz.ntmps34
            go_wp2_with fail
            refine (hi _).mono ?_
            rintro e w1 ⟨rfl, rfl⟩
            clear hi
            go_wp2_with fail
            go_ret
            exact ⟨ResI.ok HR.out, rfl⟩
        · rw [if_neg h2] at hR
          by_cases h3 : c = 34 ∧ inq = false
          · rw [if_pos h3] at hR
            obtain ⟨rfl, rfl⟩ := h3
            clear h2 hi hp1 hp2 hd2 ex2 ex2'
            cases hx : Wd.upto g r 34 true with
            | error k =>
              have hu := HU2.out r 34 true hrl (by rw [hx]; rw [hx] at hR; simp only at hR; intro e; cases e; exact HNE.out hR.symm)
              rw [hx] at hR hu
              have HR := Lib.hid hR.symm
              clear hR hx
              go_enter Tryz.func34, Tryz.ntmps34
              go_wp2_with fail
              refine (hu _).mono ?_
              rintro e w1 ⟨rfl, rfl⟩
              go_wp2_with fail
              exact ⟨rfl, ResI.fail HR.out, rfl⟩
            | ok n =>
              have hnl := ((piece_len g).2 _ _ _ _ hx).2
              have hu := HU2.out r 34 true hrl (by rw [hx]; intro e; cases e)
              rw [hx] at hR hu
              have HR := Lib.hid hR.symm
              clear hR hx
              go_enter Tryz.func34, Tryz.ntmps34
              go_wp2_with fail
              refine (hu _).mono ?_
              rintro e w1 ⟨rfl, rfl⟩
              clear hu
              go_wp2_with fail
              go_ret
              refine ⟨ResI.ok HR.out, rfl⟩
          · rw [if_neg h3] at hR
            have hq : (inq = true ∧ (c.toNat : Int) = 39 ∧ ¬ ((c.toNat : Int) = 34)) ∨ (inq = true ∧ ¬ ((c.toNat : Int) = 39) ∧ (c.toNat : Int) = 34) ∨ (¬ ((c.toNat : Int) = 39) ∧ ¬ ((c.toNat : Int) = 34)) := by
              by_cases e1 : (c.toNat : Int) = 39
              · refine .inl ⟨?_, e1, by omega⟩
                cases inq with
                | true => rfl
                | false => exact absurd ⟨(u8_nat (n := 39) (by decide)).1 e1, rfl⟩ h2
              · by_cases e2 : (c.toNat : Int) = 34
                · refine .inr (.inl ⟨?_, e1, e2⟩)
                  cases inq with
                  | true => rfl
                  | false => exact absurd ⟨(u8_nat (n := 34) (by decide)).1 e2, rfl⟩ h3
                · exact .inr (.inr ⟨e1, e2⟩)
            clear h2 h3 hi
            cases hx1 : Wd.pre [36, 123] (c :: r) with
            | true =>
              rw [hx1, if_pos rfl] at hR
              obtain rfl : c = 36 := by simp [Wd.pre, List.isPrefixOf] at hx1; exact hx1.1.symm
              clear hq h1'
              have hr2 : 1 ≤ r.length := by
                cases r with
                | nil => simp [Wd.pre] at hx1
                | cons d r => simp
              rw [hx1] at hp1
              clear hx1 hp2
              cases hx : Wd.upto g ((36 :: r).drop 2) 125 false with
              | error k =>
                have hu := HU2.out ((36 :: r).drop 2) 125 false hd2 (by rw [hx]; rw [hx] at hR; simp only at hR; intro e; cases e; exact HNE.out hR.symm)
                rw [hx] at hR hu
                have HR := Lib.hid hR.symm
                clear hR hx
                generalize (36 :: r).drop 2 = u at *
                go_enter Tryz.func34, Tryz.ntmps34
                go_wp2_with fail
                refine (hp1 _).mono ?_
                rintro e w1 ⟨rfl, rfl⟩
                go_wp2_with fail
                refine (hu _).mono ?_
                rintro e w1 ⟨rfl, rfl⟩
                go_wp2_with fail
                exact ⟨rfl, ResI.fail HR.out, rfl⟩
              | ok n =>
                have hnl := ((piece_len g).2 _ _ _ _ hx).2
                have hu := HU2.out ((36 :: r).drop 2) 125 false hd2 (by rw [hx]; intro e; cases e)
                rw [hx] at hR hu
                have HR := Lib.hid hR.symm
                clear hR hx
                generalize (36 :: r).drop 2 = u at *
                go_enter Tryz.func34, Tryz.ntmps34
                go_wp2_with fail
                refine (hp1 _).mono ?_
                rintro e w1 ⟨rfl, rfl⟩
                clear hp1
                go_wp2_with fail
                refine (hu _).mono ?_
                rintro e w1 ⟨rfl, rfl⟩
                clear hu
                go_wp2_with fail
                go_ret
                refine ⟨ResI.ok HR.out, rfl⟩
            | false =>
              rw [hx1, if_neg (by decide)] at hR
              rw [hx1] at hp1
              clear hx1
              by_cases h4 : c = 96
              · rw [if_pos (.inl h4)] at hR
                subst h4
                have HR := Lib.hid hR.symm
                clear hR hp2 hq h1'
                go_enter Tryz.func34, Tryz.ntmps34
                go_wp2_with fail
                refine (hp1 _).mono ?_
                rintro e w1 ⟨rfl, rfl⟩
                clear hp1
                go_wp2_with fail
                refine (fail_any _ _).mono ?_
                rintro e w2 ⟨rfl, rfl⟩
                go_wp2_with fail
                exact ⟨rfl, ResI.fail HR.out, rfl⟩
              · have h4' : ¬ ((c.toNat : Int) = 96) := u8_lit h4 (by decide)
                cases hx2 : Wd.pre [36, 40] (c :: r) with
                | true =>
                  rw [if_pos (.inr hx2)] at hR
                  obtain rfl : c = 36 := by simp [Wd.pre, List.isPrefixOf] at hx2; exact hx2.1.symm
                  rw [hx2] at hp2
                  have HR := Lib.hid hR.symm
                  clear hR hx2 h4 hq h1' h4'
                  go_enter Tryz.func34, Tryz.ntmps34
                  go_wp2_with fail
                  refine (hp1 _).mono ?_
                  rintro e w1 ⟨rfl, rfl⟩
                  clear hp1
                  go_wp2_with fail
                  refine (hp2 _).mono ?_
                  rintro e w1 ⟨rfl, rfl⟩
                  clear hp2
                  go_wp2_with fail
                  refine (fail_any _ _).mono ?_
                  rintro e w2 ⟨rfl, rfl⟩
                  go_wp2_with fail
                  exact ⟨rfl, ResI.fail HR.out, rfl⟩
                | false =>
                  rw [if_neg (by rintro (e | e); exact h4 e; rw [hx2] at e; cases e)] at hR
                  rw [hx2] at hp2
                  have HR := Lib.hid hR.symm
                  clear hR hx2 h4
                  rcases hq with ⟨rfl, hq1, hq2⟩ | ⟨rfl, hq1, hq2⟩ | ⟨hq1, hq2⟩
                  all_goals
                    go_enter Tryz.func34, Tryz.ntmps34
                    go_wp2_with fail
                    refine (hp1 _).mono ?_
                    rintro e w1 ⟨rfl, rfl⟩
                    clear hp1
                    go_wp2_with fail
                    refine (hp2 _).mono ?_
                    rintro e w1 ⟨rfl, rfl⟩
                    clear hp2
                    go_wp2_with fail
                    go_ret
                    exact ⟨ResI.ok HR.out, rfl⟩

theorem both_any (f : Nat) : PieceC f ∧ UptoC f := by
  induction f using Nat.strongRecOn with
  | _ f ih => exact ⟨piece_any f fun g hg => (ih g hg).2, upto_any f fun g hg => (ih g hg).1⟩

/-- A piece, where it is told. -/
theorem pieceN_any (s : Wd.Bytes) (inq : Bool) (n : Nat) (hs : s ≠ []) (hl : s.length < 1073741824) (h : Wd.pieceN s inq = .ok n) (w : World) :
    Calls Tryz.prog 34 #[.string ⟨s.toArray⟩, .bool inq] w fun e w' => e = .returned (.int .i64 n) ∧ w' = w := by
  have := (both_any _).1 s inq hs hl (by show Wd.pieceN s inq ≠ _; rw [h]; intro e; cases e) w
  refine this.mono ?_
  rintro e w' ⟨he, rfl⟩
  have h2 : Wd.piece (2 * s.length + 2) s inq = .ok n := h
  rw [h2] at he
  exact ⟨he, rfl⟩
theorem pieceN_len {s : Wd.Bytes} {inq : Bool} {n : Nat} (h : Wd.pieceN s inq = .ok n) : 1 ≤ n ∧ n ≤ s.length := (piece_len _).1 _ _ _ h

end Go.Proofs.YtfoehfehnmhhmaaGreatDoor
