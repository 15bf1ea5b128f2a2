/-
  Texts of this seat put together: R22.
-/
import Derived.Test.YthdkbbkkijdhfaaGreatDoorH29
import Derived.Test.YthdkbbkkijdhfaaGreatDoorH35

/-
  MatchAround: the law's walk. Conditions: the texts are short; the library's variables hold what they hold.
-/
namespace Go.Proofs.YthdkbbkkijdhfaaGreatDoor
open Go.RowKit Go.Shelf Go.Maps

theorem below_grown {B : Nat} {w w1 : World} {row : Option Nat} (hg : w.grownBy w1 row) (hr : ∀ k, row = some k → B ≤ k) (hB : B ≤ w.heap.size) : Below B w w1 :=
  ⟨hg.os, hg.tape, hg.output, hg.size, fun k hk => hg.block k (by omega) fun e => by have := hr k e.symm; omega⟩

theorem run_le (P : List Mx.St) (b : Rx.Bytes) : ∀ (f at_ : Nat) (now next : Mx.Run) (last : Option Nat) (z : Nat), at_ ≤ b.length → (∀ y, last = some y → y ≤ b.length) → Mx.run P b f at_ now next last = some z → z ≤ b.length := by
  intro f
  induction f with
  | zero => intro at_ now next last z _ hl h; exact hl z h
  | succ f ih =>
    intro at_ now next last z ha hl h
    have hr : ∀ y, (Mx.round P b at_ now.l ⟨[], next.has⟩ last).2 = some y → y ≤ b.length := fun y hy => by
      rcases Mx.round_ge P b at_ now.l ⟨[], next.has⟩ last with h1 | h1
      · rw [h1] at hy; obtain rfl := Option.some.inj hy; exact ha
      · rw [h1] at hy; exact hl y hy
    unfold Mx.run at h
    split at h
    · exact hl z h
    · simp only at h
      split at h
      · exact hr z h
      · exact ih _ _ _ _ z (by omega) hr h
theorem findF_le (P : List Mx.St) (st : Nat) (b : Rx.Bytes) : ∀ (f a x y : Nat), Mx.findF P st b f a = some (x, y) → x ≤ b.length ∧ y ≤ b.length := by
  intro f
  induction f with
  | zero => intro a x y h; simp [Mx.findF] at h
  | succ f ih =>
    intro a x y h
    unfold Mx.findF at h
    split at h
    · cases h
    · rename_i hl
      cases hx : Mx.longest P st b a with
      | none => rw [hx] at h; exact ih _ _ _ h
      | some z =>
        rw [hx] at h
        simp only [Option.some.injEq, Prod.mk.injEq] at h
        obtain ⟨rfl, rfl⟩ := h
        exact ⟨by omega, run_le P b _ _ _ _ none _ (by omega) (fun y h => by cases h) hx⟩
theorem find_le {P : List Mx.St} {st : Nat} {b : Rx.Bytes} {a x y : Nat} (h : Mx.find P st b a = some (x, y)) : x ≤ b.length ∧ y ≤ b.length := findF_le P st b _ _ x y h

theorem zero_has : Tryz.zeroCells31 = hasArr noHas := by kernel_rfl

set_option maxHeartbeats 6400000 in
set_option maxRecDepth 100000 in
theorem MatchAround_any (s : Rx.Bytes) (ext : Bool) (b more : Rx.Bytes) (bp mp : Option Addr) (bc mc : Nat) (w : World) (hg : Glo w) (h8 : 8 ≤ w.heap.size) (hl : s.length < 1073741824) (hlb : b.length < 1073741824) (hlm : more.length < 1073741824)
    (hbs : Bs w bp b) (hms : Bs w mp more) :
    Calls Tryz.prog 3 #[.string ⟨s.toArray⟩, .bool ext, .slice bp b.length bc, .slice mp more.length mc] w fun e w' => e = .returned (.bool true) ∧ Below w.heap.size w w' := by
  have haw := awake16_any w hg h8
  have HG := Lib.hid hg
  have HBS := Lib.hid hbs
  have HMS := Lib.hid hms
  clear hg hbs hms
  go_enter Tryz.func3, Tryz.ntmps3
  go_wp2_with fail
  refine haw.mono ?_
  rintro e w1 ⟨rfl, b1⟩
  have hp := rfparse_any s ext w1 hl
  have B1 := Lib.hid b1
  clear haw b1
  go_wp2_with fail
  refine hp.mono ?_
  rintro e w2 ⟨hcase, b2⟩
  have B2 : Hid (Below w.heap.size w w2) := B1.out.trans (b2.mono B1.out.size)
  clear hp b2
  rcases hcase with ⟨k, hk, rfl⟩ | ⟨q, t, rfl, hn, hrd, hsz⟩
  · have hk2 : (k == 0) = false := beq_eq_false_iff_ne.2 hk
    go_wp2_with fail
    go_ret
    exact ⟨rfl, B2.out⟩
  · have HN := Lib.hid hn
    have HRD := Lib.hid hrd
    clear hn hrd
    by_cases hlen : (300 : Int) < (b.length : Int) + (more.length : Int)
    · go_wp2_with fail
      go_ret
      exact ⟨rfl, B2.out⟩
    · have hlen2 : (b.length : Int) + (more.length : Int) ≤ 300 := by omega
      have hlen3 : decide ((300 : Int) < (b.length : Int) + (more.length : Int)) = false := decide_eq_false hlen
      have hcs := rsize_any (SizeOf.sizeOf t) t (Nat.le_refl _) w2 _ q HN.out
      go_wp2_with fail
      refine hcs.mono ?_
      rintro e w2' ⟨rfl, rfl⟩
      clear hcs
      by_cases h300 : (300 : Int) < (t.size : Int)
      · go_wp2_with fail
        go_ret
        exact ⟨rfl, B2.out⟩
      · obtain ⟨g2, i2⟩ := HG.out.step h8 B2.out
        have hpr := prog_any s ext false t w2' g2 i2 hl HRD.out hsz (prog_len (read_wf HRD.out) (by omega))
        clear g2 i2
        go_wp2_with fail
        refine hpr.mono ?_
        rintro e w3 ⟨⟨qp, rfl, hre⟩, b3⟩
        have HRE := Lib.hid hre
        have hqs := HN.out.lt
        have HN3 : Hid (RtIn w3 (fun b => b < w3.heap.size) q t) := by
          show RtIn _ _ _ _
          have := hqs.kept (Kept.of_below (S := fun _ => False) b3) fun _ _ h => h
          exact this.mono fun b hb => by have := hb.2; have := b3.size; omega
        have B3 : Hid (Below w.heap.size w w3) := B2.out.trans (b3.mono B2.out.size)
        clear hpr hre b3 hqs
        go_upto_region 9 with fail
        rw [zero_has]
        have hu := Blk.new w3 (hasArr noHas) 31
        have hk4 : Kept (fun _ => False) w3 (w3.alloc (.cells (hasArr noHas) 31)) := (Kept.refl _ _).alloc _
        have hs4 : (w3.alloc (.cells (hasArr noHas) 31)).heap.size = w3.heap.size + 1 := by simp
        generalize w3.alloc (.cells (hasArr noHas) 31) = w4 at *
        have hn4 := HN3.out.kept hk4 fun _ _ h => h
        have hmk := marks_any (SizeOf.sizeOf t) t (Nat.le_refl _) w4 _ q w3.heap.size noHas _ hn4 hu (fun h => absurd h (Nat.lt_irrefl _))
        have HK4 := Lib.hid hk4
        clear hu hk4 hn4
        go_wp2_with fail
        refine hmk.mono ?_
        rintro e w5 ⟨rfl, hb5, hk5⟩
        have HB5 := Lib.hid hb5
        have HK5 : Hid (Kept (fun _ => False) w3 w5) := by
          show Kept _ _ _
          exact HK4.out.trans' hk5 fun k hk e => by omega
        have B5 : Hid (Below w.heap.size w w5) := B3.out.trans ((HK5.out.below).mono B3.out.size)
        have HRE5 : Hid (Ready w5 qp t) := by
          have := HRE.out.kept HK5.out.below
          exact this
        have HBS5 : Hid (Bs w5 bp b) := HBS.out.below B5.out (Nat.le_refl _)
        have HMS5 : Hid (Bs w5 mp more) := HMS.out.below B5.out (Nat.le_refl _)
        have hfd := find_ready qp bc t 0 b bp w5 HRE5.out HBS5.out (by omega)
        obtain ⟨AN, hAN⟩ : ∃ x, anch t = x := ⟨_, rfl⟩
        obtain ⟨R, hR⟩ : ∃ x, Mx.find (progOf t).2 (progOf t).1 b (0 : Int).toNat = x := ⟨_, rfl⟩
        rw [hAN]
        rw [hR] at hfd
        have HAN := Lib.hid hAN
        have HR := Lib.hid hR
        clear hmk hb5 hk5 hAN hR
        cases R with
        | none =>
          simp only [findVal] at hfd
          go_wp2_with fail
          refine hfd.mono ?_
          rintro e w6 ⟨rfl, b6⟩
          have B6 : Hid (Below w.heap.size w w6) := B5.out.trans (b6.mono B5.out.size)
          clear hfd b6
          cases AN
          all_goals go_wp2_with fail
          all_goals go_ret
          all_goals exact ⟨rfl, B6.out⟩
        | some xy =>
          obtain ⟨x, y⟩ := xy
          simp only [findVal] at hfd
          go_wp2_with fail
          refine hfd.mono ?_
          rintro e w6 ⟨rfl, b6⟩
          have B6 : Hid (Below w.heap.size w w6) := B5.out.trans (b6.mono B5.out.size)
          have HRE6 : Hid (Ready w6 qp t) := HRE5.out.kept b6
          have HB6 : Hid (Blk w6 w3.heap.size (hasArr fun c => noHas c || usedBy t c) 31) := HB5.out.keep b6 HB5.out.lt
          clear hfd b6
          cases AN with
          | true =>
            go_wp2_with fail
            go_ret
            exact ⟨rfl, B6.out⟩
          | false =>
            by_cases hxy : (x : Int) = (y : Int)
            · go_wp2_with fail
              go_ret
              exact ⟨rfl, B6.out⟩
            · have HPL := Lib.hid (plain_of HAN.out)
              have hbne : b ≠ [] := fun e => hxy (by have h := HR.out; rw [e] at h; rw [find_nil h])
              have HBNE := Lib.hid hbne
              clear hbne
              go_wp2_with fail
              go_loopw [18, 19, 20, 21] (fun x18 _x19 _x20 _x21 wr => ∃ c : Nat, c ≤ 256 ∧ x18 = .int .i64 c ∧ wr = w6) (fun x18 _ _ _ _ => 256 - (intOf x18).toNat)
              case atStart => exact ⟨0, Nat.zero_le _, rfl, rfl⟩
              case round =>
                obtain ⟨c, hc, rfl, rfl⟩ := hrel
                by_cases hlt : c < 256
                · have x0 := HB6.out.cell c (arr_has _ c hlt)
                  obtain ⟨U, hU⟩ : ∃ U, (noHas (UInt8.ofNat c) || usedBy t (UInt8.ofNat c)) = U := ⟨_, rfl⟩
                  rw [hU] at x0
                  clear hU
                  cases U with
                  | true =>
                    go_wp2_with fail
                    refine ⟨⟨c + 1, by omega, by go_num, by first | trivial | rfl⟩, ?_⟩
                    show 256 - ((c : Int) + 1).toNat < 256 - (c : Int).toNat
                    omega
                  | false =>
                    have hcv : IntKind.u8.wrap (c : Int) = (c : Int) := by simp [IntKind.wrap, IntKind.signed, IntKind.bits]; omega
                    have hlit := World.ownsRow_lit wr (e := 5) (size := 1) (base := wr.heap.size) #[.int .u8 c] 1 (Nat.le_refl _) (by unfold maxLen; omega) rfl
                    have hbs7 : Bs (wr.alloc (.cells #[.int .u8 c] 5)) bp b := (HBS.out.below B6.out (Nat.le_refl _)).below (((Kept.refl (fun _ => False) wr).alloc _).below) (Nat.le_refl _)
                    go_wp2_with (at_builtin; refine append_bytes rfl _ _ rfl wr.heap.size _ 1 [.int .u8 c] rfl hlit bp b bc rfl hbs7 (by omega) (by simp) ?_; intro v1 u1 ho1 hg1 hv1)
                    have hcb : (UInt8.ofNat c).toNat = c := by simp [UInt8.toNat_ofNat']; omega
                    have hmap : [Value.int .u8 (c : Int)] ++ b.map byteV = (UInt8.ofNat c :: b).map byteV := by simp [byteV, hcb]
                    rw [hmap] at ho1
                    have hob1 : ∀ k, (Value.slice (some ⟨wr.heap.size, 0, none⟩) 1 1).ownBlock = some k → wr.heap.size ≤ k := fun k hk => by
                      obtain rfl : wr.heap.size = k := Option.some.inj hk
                      exact Nat.le_refl _
                    have HBW : Hid (Below wr.heap.size wr u1) := (((Kept.refl (fun _ => False) wr).alloc _).below).trans (below_grown (B := wr.heap.size) hg1 hob1 (by simp))
                    obtain ⟨p9, c9, rfl, hbs9⟩ := bs_own (b := UInt8.ofNat c :: b) ho1 (by simp; omega)
                    have hfd2 := find_ready qp c9 t 1 (UInt8.ofNat c :: b) p9 u1 (HRE6.out.kept HBW.out) hbs9 (by simp; omega)
                    have hf : Mx.find (progOf t).2 (progOf t).1 (UInt8.ofNat c :: b) (1 : Int).toNat = some (x + 1, y + 1) := around_ahead _ HPL.out HR.out
                    rw [hf] at hfd2
                    simp only [findVal, List.length_cons] at hfd2
                    clear ho1 hg1 hv1 hob1 hlit hbs7 hbs9 hf hmap hcb
                    refine hfd2.mono ?_
                    rintro e w8 ⟨rfl, b8⟩
                    have B8 : Hid (Below w.heap.size w w8) := B6.out.trans ((HBW.out.trans (b8.mono HBW.out.size)).mono B6.out.size)
                    have HRE8 : Hid (Ready w8 qp t) := HRE6.out.kept (HBW.out.trans (b8.mono HBW.out.size))
                    have hyb := find_le HR.out
                    have w1' : IntKind.i64.wrap ((x : Int) + 1) = (x : Int) + 1 := by simp [IntKind.wrap, IntKind.signed, IntKind.bits]; omega
                    have w2'' : IntKind.i64.wrap ((y : Int) + 1) = (y : Int) + 1 := by simp [IntKind.wrap, IntKind.signed, IntKind.bits]; omega
                    clear hfd2 b8 HBW x0
                    have hbsW := HBS.out.below B8.out (Nat.le_refl _)
                    have hmsW := HMS.out.below B8.out (Nat.le_refl _)
                    have hown0 := World.ownsRow_nil w8 w8.heap.size 5 1
                    go_wp2_with (at_builtin; first | (refine append_bytes rfl _ _ rfl w8.heap.size (.slice none 0 0) 0 [] rfl hown0 bp b bc rfl hbsW (by omega) (Nat.le_refl _) ?_; intro v1 u1 ho1 hg1 hv1) | (refine append_bytes rfl _ _ rfl w8.heap.size v1 (0 + b.length) ([] ++ b.map byteV) rfl ho1 mp more mc rfl (hmsW.below (below_grown (B := w8.heap.size) hg1 (fun k hk => by cases hk) (Nat.le_refl _)) (Nat.le_refl _)) (by omega) hg1.size ?_; intro v2 u2 ho2 hg2 hv2))
                    have hob1 : ∀ k, v1.ownBlock = some k → w8.heap.size ≤ k := fun k hk => (ho1.lt k hk).1
                    have HBW : Hid (Below w8.heap.size w8 u2) := (below_grown (B := w8.heap.size) hg1 (fun k hk => by cases hk) (Nat.le_refl _)).trans (below_grown (B := w8.heap.size) hg2 hob1 hg1.size)
                    obtain ⟨p9, c9, rfl, hbs9⟩ := bs_own (b := b ++ more) (by simpa using ho2) (by simp)
                    have hfd2 := find_ready qp c9 t 0 (b ++ more) p9 u2 (HRE8.out.kept HBW.out) hbs9 (by simp; omega)
                    obtain ⟨uu, vv, hf, hux, huv⟩ := around_behind more HPL.out HR.out
                    have hf2 : Mx.find (progOf t).2 (progOf t).1 (b ++ more) (0 : Int).toNat = some (uu, vv) := hf
                    rw [hf2] at hfd2
                    simp only [findVal] at hfd2
                    clear ho1 hg1 hv1 ho2 hg2 hv2 hob1 hbsW hmsW hown0 hbs9 hf hf2
                    refine hfd2.mono ?_
                    rintro e w9 ⟨rfl, b9⟩
                    have B9 : Hid (Below w.heap.size w w9) := B8.out.trans ((HBW.out.trans (b9.mono HBW.out.size)).mono B8.out.size)
                    clear hfd2 b9
                    have g1 : (uu : Int) ≤ (x : Int) := by omega
                    by_cases g2 : (uu : Int) < (x : Int)
                    · go_wp2_with fail
                      go_ret
                      exact ⟨rfl, B9.out⟩
                    · have g3 : (y : Int) ≤ (vv : Int) := by omega
                      go_wp2_with fail
                      go_ret
                      exact ⟨rfl, B9.out⟩
                · obtain rfl : c = 256 := by omega
                  have hbsW := HBS.out.below B6.out (Nat.le_refl _)
                  have hmsW := HMS.out.below B6.out (Nat.le_refl _)
                  have hown0 := World.ownsRow_nil wr wr.heap.size 5 1
                  go_wp2_with (at_builtin; first | (refine append_bytes rfl _ _ rfl wr.heap.size (.slice none 0 0) 0 [] rfl hown0 bp b bc rfl hbsW (by omega) (Nat.le_refl _) ?_; intro v1 u1 ho1 hg1 hv1) | (refine append_bytes rfl _ _ rfl wr.heap.size v1 (0 + b.length) ([] ++ b.map byteV) rfl ho1 mp more mc rfl (hmsW.below (below_grown (B := wr.heap.size) hg1 (fun k hk => by cases hk) (Nat.le_refl _)) (Nat.le_refl _)) (by omega) hg1.size ?_; intro v2 u2 ho2 hg2 hv2))
                  have hob1 : ∀ k, v1.ownBlock = some k → wr.heap.size ≤ k := fun k hk => (ho1.lt k hk).1
                  have HBW : Hid (Below wr.heap.size wr u2) := (below_grown (B := wr.heap.size) hg1 (fun k hk => by cases hk) (Nat.le_refl _)).trans (below_grown (B := wr.heap.size) hg2 hob1 hg1.size)
                  obtain ⟨p9, c9, rfl, hbs9⟩ := bs_own (b := b ++ more) (by simpa using ho2) (by simp)
                  have hfd2 := find_ready qp c9 t 0 (b ++ more) p9 u2 (HRE6.out.kept HBW.out) hbs9 (by simp; omega)
                  obtain ⟨uu, vv, hf, hux, huv⟩ := around_behind more HPL.out HR.out
                  have hf2 : Mx.find (progOf t).2 (progOf t).1 (b ++ more) (0 : Int).toNat = some (uu, vv) := hf
                  rw [hf2] at hfd2
                  simp only [findVal] at hfd2
                  clear ho1 hg1 hv1 ho2 hg2 hv2 hob1 hbsW hmsW hown0 hbs9 hf hf2
                  refine hfd2.mono ?_
                  rintro e w9 ⟨rfl, b9⟩
                  have B9 : Hid (Below w.heap.size w w9) := B6.out.trans ((HBW.out.trans (b9.mono HBW.out.size)).mono B6.out.size)
                  clear hfd2 b9
                  have g1 : (uu : Int) ≤ (x : Int) := by omega
                  by_cases g2 : (uu : Int) < (x : Int)
                  · go_wp2_with fail
                    go_ret
                    exact ⟨rfl, B9.out⟩
                  · have g3 : (y : Int) ≤ (vv : Int) := by omega
                    go_wp2_with fail
                    go_ret
                    exact ⟨rfl, B9.out⟩

end Go.Proofs.YthdkbbkkijdhfaaGreatDoor
