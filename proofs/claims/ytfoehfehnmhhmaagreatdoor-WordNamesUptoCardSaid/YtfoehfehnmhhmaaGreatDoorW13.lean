/-
  The walk of walk.Glob, of patterns without a set. Condition: lengths.
-/
import Derived.Test.YtfoehfehnmhhmaaGreatDoorW12
import Derived.Deep.LoopGhost
namespace Go.Proofs.YtfoehfehnmhhmaaGreatDoor
open Go.RowKit Go.Shelf Go.Maps

/-- What a star is followed by, when it takes one more. -/
def failsF (k : Nat) (back from_ : Wd.Bytes) (star : Bool) : Option Bool := if star = false ∨ from_ = [] then some false else Wd.globF k back from_.tail back from_.tail star
theorem globF_nil (k : Nat) (s back from_ : Wd.Bytes) (star : Bool) : Wd.globF (k + 1) [] s back from_ star = if s = [] then some true else failsF k back from_ star := by
  rw [Wd.globF.eq_def]; rfl
theorem globF_star (k : Nat) (r s back from_ : Wd.Bytes) (star : Bool) : Wd.globF (k + 1) (42 :: r) s back from_ star = Wd.globF k r s r s true := by
  rw [Wd.globF.eq_def]; rfl
theorem globF_end (k : Nat) (d : UInt8) (r back from_ : Wd.Bytes) (star : Bool) (hd : d ≠ 42) : Wd.globF (k + 1) (d :: r) [] back from_ star = failsF k back from_ star := by
  rw [Wd.globF.eq_def]; simp only [if_neg hd]; rfl
theorem globF_one (k : Nat) (d : UInt8) (r : Wd.Bytes) (c : UInt8) (s back from_ : Wd.Bytes) (star : Bool) (hd : d ≠ 42) : Wd.globF (k + 1) (d :: r) (c :: s) back from_ star = match Wd.oneOf (d :: r) c with
    | none => none
    | some (true, rest) => Wd.globF k rest s back from_ star
    | some (false, _) => failsF k back from_ star := by
  rw [Wd.globF.eq_def]; simp only [if_neg hd]; rfl
theorem oneOf_len {d : UInt8} {r : Wd.Bytes} {c : UInt8} {a : Bool} {t : Wd.Bytes} (h : Wd.oneOf (d :: r) c = some (a, t)) : t.length ≤ r.length := by
  unfold Wd.oneOf at h
  simp only at h
  split at h
  · cases h; exact Nat.le_refl _
  · split at h
    · cases h
    · split at h
      · cases r with
        | nil => cases h; exact Nat.le_refl _
        | cons d2 r2 => cases h; simp
      · cases h; exact Nat.le_refl _

/-- What a round of Glob knows. -/
structure GlobIn (w wr : World) (a : Bool) (f : Nat) (p s back from_ : Wd.Bytes) (star : Bool) : Prop where
  res : Wd.globF f p s back from_ star = some a
  below : Below w.heap.size w wr
  lp : p.length < 4294967296
  ls : s.length < 4294967296
  lb : back.length < 4294967296
  lf : from_.length < 4294967296

set_option maxHeartbeats 6400000 in
set_option maxRecDepth 100000 in
theorem globF_any (F : Nat) (p s : Wd.Bytes) (a : Bool) (hp : p.length < 4294967296) (hs : s.length < 4294967296) (h : Wd.globF F p s [] [] false = some a) (w : World) :
    Calls Tryz.prog 91 #[.string ⟨p.toArray⟩, .string ⟨s.toArray⟩] w fun e w' => e = .returned (.bool a) ∧ Below w.heap.size w w' := by
  have H : Hid (GlobIn w w a F p s [] [] false) := ⟨h, Below.refl _ _, hp, hs, by decide, by decide⟩
  clear h hp hs
  go_enter Tryz.func91, Tryz.ntmps91
  go_wp2_with fail
  go_loopg [0, 1, 5, 6, 7, 8, 9, 10, 17, 23] F (fun f x0 x1 x5 x6 x7 _ _ _ _ _ wr => ∃ (p s back from_ : Wd.Bytes) (star : Bool), x0 = .string ⟨p.toArray⟩ ∧ x1 = .string ⟨s.toArray⟩ ∧ x5 = .string ⟨back.toArray⟩ ∧ x6 = .string ⟨from_.toArray⟩ ∧ x7 = .bool star ∧ Hid (GlobIn w wr a f p s back from_ star))
  case atStart => exact ⟨p, s, [], [], false, rfl, rfl, rfl, rfl, rfl, H⟩
  case round =>
    obtain ⟨p, s, back, from_, star, rfl, rfl, rfl, rfl, rfl, HI⟩ := hrel
    have hp := HI.out.lp
    have hs := HI.out.ls
    have hf := HI.out.lf
    obtain ⟨k, rfl⟩ : ∃ k, gk = k + 1 := by
      cases gk with
      | zero => exact absurd HI.out.res (by simp [Wd.globF])
      | succ k => exact ⟨k, rfl⟩
    have hpre := hasPrefix_any p [42]
    have hr := HI.out.res
    cases p with
    | nil =>
      rw [globF_nil] at hr
      rw [show Wd.pre [42] [] = false from rfl] at hpre
      cases s with
      | nil =>
        obtain rfl : true = a := by simpa using hr
        clear hr
        go_wp2_with fail
        refine (hpre _).mono ?_
        rintro e w1 ⟨rfl, rfl⟩
        clear hpre
        go_wp2_with fail
        go_ret
        exact ⟨rfl, HI.out.below⟩
      | cons c s2 =>
        have HF : Hid (failsF k back from_ star = some a) := by show _ = _; simpa using hr
        clear hr
        have es : ((⟨(c :: s2).toArray⟩ : ByteArray) == ⟨#[]⟩) = false := str_nil _
        have HF2 := HF.out
        unfold Hid failsF at HF2
        rcases star with _ | _
        · obtain rfl : false = a := by simpa using HF2
          clear HF2
          go_wp2_with fail
          refine (hpre _).mono ?_
          rintro e w1 ⟨rfl, rfl⟩
          clear hpre
          go_wp2_with fail
          go_ret
          exact ⟨rfl, HI.out.below⟩
        · cases from_ with
          | nil =>
            obtain rfl : false = a := by simpa using HF2
            clear HF2
            go_wp2_with fail
            refine (hpre _).mono ?_
            rintro e w1 ⟨rfl, rfl⟩
            clear hpre
            go_wp2_with fail
            go_ret
            exact ⟨rfl, HI.out.below⟩
          | cons f0 fr =>
            have HF3 : Hid (Wd.globF k back fr back fr true = some a) := by
              show _ = _
              simpa using HF2
            clear HF2
            have exf : (⟨(f0 :: fr).toArray⟩ : ByteArray).extract 1 (f0 :: fr).length = ⟨fr.toArray⟩ := extract_drop (f0 :: fr) 1
            have exf' : (⟨(f0 :: fr).toArray⟩ : ByteArray).extract 1 (fr.length + 1) = ⟨fr.toArray⟩ := extract_drop (f0 :: fr) 1
            have ef : ((⟨(f0 :: fr).toArray⟩ : ByteArray) == ⟨#[]⟩) = false := str_nil _
            have hfl : (f0 :: fr).length = fr.length + 1 := by simp
            go_wp2_with fail
            refine (hpre _).mono ?_
            rintro e w1 ⟨rfl, rfl⟩
            clear hpre
            go_wp2_with fail
            go_roundg k
            case measure => omega
            case rel => exact ⟨back, fr, back, fr, true, rfl, rfl, rfl, rfl, rfl, HF3.out, HI.out.below, HI.out.lb, by have := HI.out.lf; simp at this; omega, HI.out.lb, by have := HI.out.lf; simp at this; omega⟩
    | cons d r =>
      have exp : (⟨(d :: r).toArray⟩ : ByteArray).extract 1 (d :: r).length = ⟨r.toArray⟩ := extract_drop (d :: r) 1
      have exp' : (⟨(d :: r).toArray⟩ : ByteArray).extract 1 (r.length + 1) = ⟨r.toArray⟩ := extract_drop (d :: r) 1
      have ep : ((⟨(d :: r).toArray⟩ : ByteArray) == ⟨#[]⟩) = false := str_nil _
      have hpl : (d :: r).length = r.length + 1 := by simp
      by_cases hd : d = 42
      · subst hd
        rw [globF_star] at hr
        rw [show Wd.pre [42] (42 :: r) = true from rfl] at hpre
        have HR := Lib.hid hr
        clear hr
        go_wp2_with fail
        refine (hpre _).mono ?_
        rintro e w1 ⟨rfl, rfl⟩
        clear hpre
        go_wp2_with fail
        go_roundg k
        case measure => omega
        case rel => exact ⟨r, s, r, s, true, rfl, rfl, rfl, rfl, rfl, HR.out, HI.out.below, by simp at hp; omega, hs, by simp at hp; omega, hs⟩
      · rw [show Wd.pre [42] (d :: r) = false by simp [Wd.pre, List.isPrefixOf]; exact fun e => hd e.symm] at hpre
        cases s with
        | nil =>
          rw [globF_end _ _ _ _ _ _ hd] at hr
          have HF := Lib.hid hr
          clear hr
          have HF2 := HF.out
          unfold Hid failsF at HF2
          rcases star with _ | _
          · obtain rfl : false = a := by simpa using HF2
            clear HF2
            go_wp2_with fail
            refine (hpre _).mono ?_
            rintro e w1 ⟨rfl, rfl⟩
            clear hpre
            go_wp2_with fail
            go_ret
            exact ⟨rfl, HI.out.below⟩
          · cases from_ with
            | nil =>
              obtain rfl : false = a := by simpa using HF2
              clear HF2
              go_wp2_with fail
              refine (hpre _).mono ?_
              rintro e w1 ⟨rfl, rfl⟩
              clear hpre
              go_wp2_with fail
              go_ret
              exact ⟨rfl, HI.out.below⟩
            | cons f0 fr =>
              have HF3 : Hid (Wd.globF k back fr back fr true = some a) := by
                show _ = _
                simpa using HF2
              clear HF2
              have exf : (⟨(f0 :: fr).toArray⟩ : ByteArray).extract 1 (f0 :: fr).length = ⟨fr.toArray⟩ := extract_drop (f0 :: fr) 1
              have exf' : (⟨(f0 :: fr).toArray⟩ : ByteArray).extract 1 (fr.length + 1) = ⟨fr.toArray⟩ := extract_drop (f0 :: fr) 1
              have ef : ((⟨(f0 :: fr).toArray⟩ : ByteArray) == ⟨#[]⟩) = false := str_nil _
              have hfl : (f0 :: fr).length = fr.length + 1 := by simp
              go_wp2_with fail
              refine (hpre _).mono ?_
              rintro e w1 ⟨rfl, rfl⟩
              clear hpre
              go_wp2_with fail
              go_roundg k
              case measure => omega
              case rel => exact ⟨back, fr, back, fr, true, rfl, rfl, rfl, rfl, rfl, HF3.out, HI.out.below, HI.out.lb, by have := HI.out.lf; simp at this; omega, HI.out.lb, by have := HI.out.lf; simp at this; omega⟩
        | cons c s2 =>
          rw [globF_one _ _ _ _ _ _ _ _ hd] at hr
          have es : ((⟨(c :: s2).toArray⟩ : ByteArray) == ⟨#[]⟩) = false := str_nil _
          have is0 : ∀ h, (⟨(c :: s2).toArray⟩ : ByteArray)[0]'h = c := fun _ => rfl
          have exs : (⟨(c :: s2).toArray⟩ : ByteArray).extract 1 (c :: s2).length = ⟨s2.toArray⟩ := extract_drop (c :: s2) 1
          have exs' : (⟨(c :: s2).toArray⟩ : ByteArray).extract 1 (s2.length + 1) = ⟨s2.toArray⟩ := extract_drop (c :: s2) 1
          have hsl : (c :: s2).length = s2.length + 1 := by simp
          rcases ho : Wd.oneOf (d :: r) c with _ | ⟨m, t⟩
          · rw [ho] at hr
            cases hr
          · have hone := one_any d r c m t (by simp at hp; omega) ho wr
            have hol := oneOf_len ho
            rw [ho] at hr
            clear ho
            cases m with
            | true =>
              have HR : Hid (Wd.globF k t s2 back from_ star = some a) := hr
              clear hr
              go_wp2_with fail
              refine (hpre _).mono ?_
              rintro e w1 ⟨rfl, rfl⟩
              clear hpre
              go_wp2_with fail
              refine hone.mono ?_
              rintro e w2 ⟨rfl, hb2⟩
              have HB2 := Lib.hid (HI.out.below.trans (hb2.mono HI.out.below.size))
              clear hb2 hone
              go_wp2_with fail
              go_region
              all_goals go_wp2_with fail
              all_goals go_roundg k
              case measure => omega
              case rel => exact ⟨t, s2, back, from_, star, rfl, rfl, rfl, rfl, rfl, HR.out, HB2.out.drew, by simp at hp; omega, by simp at hs; omega, HI.out.lb, HI.out.lf⟩
            | false =>
              have HF : Hid (failsF k back from_ star = some a) := hr
              clear hr
              have HF2 := HF.out
              unfold Hid failsF at HF2
              rcases star with _ | _
              · obtain rfl : false = a := by simpa using HF2
                clear HF2
                go_wp2_with fail
                refine (hpre _).mono ?_
                rintro e w1 ⟨rfl, rfl⟩
                clear hpre
                go_wp2_with fail
                refine hone.mono ?_
                rintro e w2 ⟨rfl, hb2⟩
                have HB2 := Lib.hid (HI.out.below.trans (hb2.mono HI.out.below.size))
                clear hb2 hone
                go_wp2_with fail
                go_ret
                exact ⟨rfl, HB2.out⟩
              · cases from_ with
                | nil =>
                  obtain rfl : false = a := by simpa using HF2
                  clear HF2
                  go_wp2_with fail
                  refine (hpre _).mono ?_
                  rintro e w1 ⟨rfl, rfl⟩
                  clear hpre
                  go_wp2_with fail
                  refine hone.mono ?_
                  rintro e w2 ⟨rfl, hb2⟩
                  have HB2 := Lib.hid (HI.out.below.trans (hb2.mono HI.out.below.size))
                  clear hb2 hone
                  go_wp2_with fail
                  go_ret
                  exact ⟨rfl, HB2.out⟩
                | cons f0 fr =>
                  have HF3 : Hid (Wd.globF k back fr back fr true = some a) := by
                    show _ = _
                    simpa using HF2
                  clear HF2
                  have exf : (⟨(f0 :: fr).toArray⟩ : ByteArray).extract 1 (f0 :: fr).length = ⟨fr.toArray⟩ := extract_drop (f0 :: fr) 1
                  have exf' : (⟨(f0 :: fr).toArray⟩ : ByteArray).extract 1 (fr.length + 1) = ⟨fr.toArray⟩ := extract_drop (f0 :: fr) 1
                  have ef : ((⟨(f0 :: fr).toArray⟩ : ByteArray) == ⟨#[]⟩) = false := str_nil _
                  have hfl : (f0 :: fr).length = fr.length + 1 := by simp
                  go_wp2_with fail
                  refine (hpre _).mono ?_
                  rintro e w1 ⟨rfl, rfl⟩
                  clear hpre
                  go_wp2_with fail
                  refine hone.mono ?_
                  rintro e w2 ⟨rfl, hb2⟩
                  have HB2 := Lib.hid (HI.out.below.trans (hb2.mono HI.out.below.size))
                  clear hb2 hone
                  go_wp2_with fail
                  go_roundg k
                  case measure => omega
                  case rel => exact ⟨back, fr, back, fr, true, rfl, rfl, rfl, rfl, rfl, HF3.out, HB2.out, HI.out.lb, by have := HI.out.lf; simp at this; omega, HI.out.lb, by have := HI.out.lf; simp at this; omega⟩

theorem glob_any (p s : Wd.Bytes) (a : Bool) (hp : p.length < 4294967296) (hs : s.length < 4294967296) (h : Wd.glob p s = some a) (w : World) :
    Calls Tryz.prog 91 #[.string ⟨p.toArray⟩, .string ⟨s.toArray⟩] w fun e w' => e = .returned (.bool a) ∧ Below w.heap.size w w' := globF_any _ p s a hp hs h w

end Go.Proofs.YtfoehfehnmhhmaaGreatDoor
