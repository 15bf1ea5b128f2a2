/-
  The walks of piece and upto. Condition: the spec tells what comes of it.
-/
import Derived.Test.YtfoehfehnmhhmaaGreatDoorW3
namespace Go.Proofs.YtfoehfehnmhhmaaGreatDoor
open Go.RowKit Go.Shelf

theorem idx_lt {c : UInt8} {s : Wd.Bytes} {n : Nat} (h : Wd.idx c s = some n) : n < s.length := by
  induction s generalizing n with
  | nil => simp [Wd.idx] at h
  | cons d r ih =>
    unfold Wd.idx at h
    split at h
    · obtain rfl := Option.some.inj h; simp
    · rw [Option.map_eq_some_iff] at h
      obtain ⟨m, hm, rfl⟩ := h
      have := ih hm
      simp only [List.length_cons]; omega

/-- A piece has a byte at least, and no more than there are. -/
theorem piece_len (f : Nat) : (∀ s inq n, Wd.piece f s inq = .ok n → 1 ≤ n ∧ n ≤ s.length) ∧ (∀ s d inq n, Wd.upto f s d inq = .ok n → 1 ≤ n ∧ n ≤ s.length) := by
  induction f with
  | zero => exact ⟨fun s inq n h => by simp [Wd.piece] at h, fun s d inq n h => by simp [Wd.upto] at h⟩
  | succ f ih =>
    obtain ⟨i1, i2⟩ := ih
    refine ⟨fun s inq n h => ?_, fun s d inq n h => ?_⟩
    · rw [Wd.piece.eq_def] at h
      simp only at h
      split at h
      · cases h
      · rename_i c r
        split at h
        · cases h; simp only [List.length_cons]; omega
        · split at h
          · split at h
            · cases h
            · rename_i k hk
              cases h
              have := idx_lt hk
              simp only [List.length_cons]; omega
          · split at h
            · split at h
              · cases h
              · rename_i k hk
                cases h
                have := i2 _ _ _ _ hk
                simp only [List.length_cons]; omega
            · split at h
              · split at h
                · cases h
                · rename_i k hk
                  cases h
                  have := i2 _ _ _ _ hk
                  simp only [List.length_drop, List.length_cons] at this ⊢; omega
              · split at h
                · cases h
                · cases h; simp
    · rw [Wd.upto.eq_def] at h
      simp only at h
      split at h
      · cases h
      · split at h
        · cases h; simp
        · split at h
          · cases h
          · rename_i k hk
            have h1 := i1 _ _ _ hk
            split at h
            · cases h
            · rename_i m hm
              have h2 := i2 _ _ _ _ hm
              cases h
              simp only [List.length_drop] at h2
              omega

/-- What a function that may give up hands back: a number, or it gives up. -/
def ResI (r : Except Int Nat) (e : Ending) : Prop := match r with
  | .ok n => e = .returned (.int .i64 n)
  | .error k => e = .panicked [{ v := brokenV k, recovered := false }]
theorem ResI.ok {r : Except Int Nat} {n : Nat} (h : r = .ok n) : ResI r (.returned (.int .i64 n)) := by rw [h]; rfl
theorem ResI.fail {r : Except Int Nat} {k : Int} (h : r = .error k) : ResI r (.panicked [{ v := brokenV k, recovered := false }]) := by rw [h]; rfl

/-- A number on top. -/
def addN (k : Nat) : Except Int Nat → Except Int Nat
  | .ok n => .ok (k + n)
  | .error e => .error e
theorem addN_zero (r : Except Int Nat) : addN 0 r = r := by cases r <;> simp [addN]
theorem addN_addN (a b : Nat) (r : Except Int Nat) : addN a (addN b r) = addN (a + b) r := by cases r <;> simp [addN, Nat.add_assoc]
theorem upto_at (g : Nat) (s : Wd.Bytes) (d : UInt8) (inq : Bool) (hs : s ≠ []) (hd : s.head? ≠ some d) :
    Wd.upto (g + 1) s d inq = match Wd.piece g s inq with
      | .error e => .error e
      | .ok n => addN n (Wd.upto g (s.drop n) d inq) := by
  cases s with
  | nil => exact absurd rfl hs
  | cons c r =>
    rw [Wd.upto.eq_def]
    simp only
    rw [if_neg (fun e => hd (by rw [e]; rfl))]
    cases Wd.piece g (c :: r) inq with
    | error e => rfl
    | ok n =>
      simp only
      cases Wd.upto g (List.drop n (c :: r)) d inq with
      | error e => rfl
      | ok m => rfl

def PieceC (f : Nat) : Prop := ∀ (s : Wd.Bytes) (inq : Bool), s ≠ [] → s.length < 1073741824 → Wd.piece f s inq ≠ .error Wd.notTold → ∀ w : World,
  Calls Tryz.prog 34 #[.string ⟨s.toArray⟩, .bool inq] w fun e w' => ResI (Wd.piece f s inq) e ∧ w' = w
def UptoC (f : Nat) : Prop := ∀ (s : Wd.Bytes) (d : UInt8) (inq : Bool), s.length < 1073741824 → Wd.upto f s d inq ≠ .error Wd.notTold → ∀ w : World,
  Calls Tryz.prog 57 #[.string ⟨s.toArray⟩, .int .u8 d.toNat, .bool inq] w fun e w' => ResI (Wd.upto f s d inq) e ∧ w' = w

theorem u8_ne {a b : UInt8} (h : ¬ a = b) : ¬ ((a.toNat : Int) = (b.toNat : Int)) := fun e => h (UInt8.toNat_inj.1 (by omega))

theorem extract_from (s : Wd.Bytes) (k : Nat) : (⟨s.toArray⟩ : ByteArray).extract k s.length = ⟨(s.drop k).toArray⟩ := extract_drop s k

set_option maxHeartbeats 6400000 in
set_option maxRecDepth 100000 in
theorem upto_any (f : Nat) (hP : ∀ g, g < f → PieceC g) : UptoC f := by
  intro s d inq hl hne w
  obtain ⟨R, hR⟩ : ∃ R, Wd.upto f s d inq = R := ⟨_, rfl⟩
  rw [hR] at hne ⊢
  have HP := Lib.hid hP
  have HNE := Lib.hid hne
  have HR : Hid (∃ g, g ≤ f ∧ R = addN 0 (Wd.upto g (s.drop 0) d inq)) := ⟨f, Nat.le_refl _, by
      rw [List.drop_zero, hR, addN_zero]⟩
  clear hP hne hR
  go_enter Tryz.func57, Tryz.ntmps57
  go_wp2_with fail
  go_loop [7] (fun x => ∃ k : Nat, k ≤ s.length ∧ x = .int .i64 k ∧ Hid (∃ g, g ≤ f ∧ R = addN k (Wd.upto g (s.drop k) d inq))) (fun x => s.length - (intOf x).toNat)
  case atStart => exact ⟨0, Nat.zero_le _, rfl, HR.out⟩
  case round =>
    clear HR
    obtain ⟨k, hk, rfl, HK⟩ := hrel
    obtain ⟨g, hgf, hr⟩ := HK.out
    cases g with
    | zero => exact absurd hr (by simp only [Wd.upto]; exact HNE.out)
    | succ g =>
      by_cases hlt : k < s.length
      · obtain ⟨c, hx, i0⟩ := byte_at hlt
        by_cases hcd : c = d
        · rw [hx, Wd.upto.eq_def] at hr
          simp only at hr
          rw [if_pos hcd] at hr
          subst hcd
          have HR2 := Lib.hid hr
          clear hr hx
          go_wp2_with fail
          go_ret
          exact ⟨ResI.ok HR2.out, rfl⟩
        · rw [upto_at g (s.drop k) d inq (by rw [hx]; simp) (by rw [hx]; simpa using hcd)] at hr
          have hcd2 := u8_ne hcd
          have hki : (k : Int) ≤ (s.length : Int) := by omega
          obtain ⟨u, hu⟩ : ∃ u, s.drop k = u := ⟨_, rfl⟩
          have ex := extract_from s k
          have hul : u.length = s.length - k := by rw [← hu]; simp
          have hpc := HP.out g (by omega) u inq (by rw [← hu, hx]; simp) (by omega)
          have hpl := (piece_len g).1 u inq
          have HUD : Hid (∀ n, u.drop n = s.drop (k + n)) := fun n => by rw [← hu, List.drop_drop]
          rw [hu] at hr ex
          clear hx hu hcd
          cases hp : Wd.piece g u inq with
          | error kk =>
            rw [hp] at hr hpc
            have HR2 := Lib.hid hr
            have hcall := hpc (by intro e; exact HNE.out (by rw [hr]; exact e)) w
            clear hr hp hpl hpc
            go_wp2_with fail
            refine hcall.mono ?_
            rintro e w1 ⟨rfl, rfl⟩
            go_wp2_with fail
            exact ⟨rfl, ResI.fail HR2.out, rfl⟩
          | ok n =>
            rw [hp] at hr hpc
            obtain ⟨hn1, hn2⟩ := hpl n hp
            have hcall := hpc (by intro e; cases e) w
            have HK2 : Hid (∃ g', g' ≤ f ∧ R = addN (k + n) (Wd.upto g' (s.drop (k + n)) d inq)) := ⟨g, by omega, by
              rw [hr, ← HUD.out]
              exact addN_addN _ _ _⟩
            clear hr hp hpl hpc
            go_wp2_with fail
            refine hcall.mono ?_
            rintro e w1 ⟨rfl, rfl⟩
            clear hcall
            go_wp2_with fail
            refine ⟨⟨k + n, by omega, by go_num, HK2.out⟩, ?_⟩
            show s.length - ((k : Int) + (n : Int)).toNat < s.length - (k : Int).toNat
            omega
      · obtain rfl : k = s.length := by omega
        rw [List.drop_length, Wd.upto.eq_def] at hr
        have HR2 := Lib.hid hr
        clear hr
        go_wp2_with fail
        refine (fail_any _ _).mono ?_
        rintro e w1 ⟨rfl, rfl⟩
        go_wp2_with fail
        exact ⟨rfl, ResI.fail HR2.out, rfl⟩

end Go.Proofs.YtfoehfehnmhhmaaGreatDoor
