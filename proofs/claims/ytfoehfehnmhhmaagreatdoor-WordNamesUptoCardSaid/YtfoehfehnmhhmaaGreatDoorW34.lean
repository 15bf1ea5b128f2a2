/-
  The walk of the lexer's token: words; Lex. Condition: lengths.
-/
import Derived.Test.YtfoehfehnmhhmaaGreatDoorW33
namespace Go.Proofs.YtfoehfehnmhhmaaGreatDoor
open Go.RowKit Go.Shelf Go.Maps

/-- Why no number stands here. -/
def NoNum (S : Wd.Bytes) (c : UInt8) : Prop := ¬ (48 : Int) ≤ (c.toNat : Int) ∨ ((48 : Int) ≤ (c.toNat : Int) ∧ ¬ (c.toNat : Int) ≤ 50) ∨ ((48 : Int) ≤ (c.toNat : Int) ∧ (c.toNat : Int) ≤ 50 ∧ S.length = 1) ∨
  ((48 : Int) ≤ (c.toNat : Int) ∧ (c.toNat : Int) ≤ 50 ∧ 2 ≤ S.length ∧ ∃ d : UInt8, (∀ h, (⟨S.toArray⟩ : ByteArray)[1]'h = d) ∧ ¬ (d.toNat : Int) = 60 ∧ ¬ (d.toNat : Int) = 62)

set_option maxHeartbeats 6400000 in
set_option maxRecDepth 100000 in
theorem token_word (w : World) (b : Nat) (c : UInt8) (S : Wd.Bytes) (l : List (Nat × Wd.Bytes)) (v : Value) (h : LxAt w b S l v) (hl : l.length ≤ 1073741824) (hp : PlainIn S c) (ht1 : Wd.takes S Wd.signs = none) (ht2 : Wd.takes S Wd.moves = none)
    (hno : NoNum S c) (hix : Wd.idx c [38, 40, 41] = none) (bts s2 : Wd.Bytes) (hr : Wd.wordF (S.length + 1) [] S = some (bts, s2)) (hb : bts ≠ []) :
    Calls Tryz.prog 32 #[.pointer (some ⟨b, 0, none⟩)] w fun e w' => e = .returned (.tuple #[]) ∧ ∃ v', LxIs w w' b s2 (l ++ [(1, bts)]) v v' := by
  have c0 : w.cell? ⟨b, 0, none⟩ = some (.string ⟨S.toArray⟩) := h.blk.cell 0 rfl
  have hcp := cutPrefix_any S [92, 10] w
  rw [hp.p1, if_neg (by decide)] at hcp
  have hh1 := hasPrefix_any S [59, 59] w
  have hh2 := hasPrefix_any S [60, 60] w
  rw [hp.p2] at hh1
  rw [hp.p3] at hh2
  have is0 := hp.is0
  have hl1 := hp.l1
  have hl2 : (1 : Int) ≤ (S.length : Int) := by omega
  have n32 := hp.n32
  have n9 := hp.n9
  have n35 := hp.n35
  have hbO : Below w.heap.size w (w.alloc signsO) := (Below.refl _ _).alloc (Nat.le_refl _) _
  have hta := take_any (w.alloc signsO) b S l v (.slice (some ⟨w.heap.size, 0, none⟩) 5 5) 2 Wd.signs (h.below hbO) (strs_new w Wd.signs (by decide) (by decide)) hl
  rw [ht1] at hta
  unfold TakePost at hta
  have hbO2 : Below w.heap.size w ((w.alloc signsO).alloc movesO) := hbO.alloc (by simp) _
  have hta2 := take_any ((w.alloc signsO).alloc movesO) b S l v (.slice (some ⟨w.heap.size + 1, 0, none⟩) 5 5) 3 Wd.moves (h.below hbO2) (by
    have := strs_new (w.alloc signsO) Wd.moves (by decide) (by decide)
    rw [show (w.alloc signsO).heap.size = w.heap.size + 1 by simp] at this
    exact this) hl
  rw [ht2] at hta2
  unfold TakePost at hta2
  have hw := word1_any ((w.alloc signsO).alloc movesO) b S bts s2 l v (h.below hbO2) hl hp.ls hr hb
  have hixc := indexByte_any [38, 40, 41] c ((w.alloc signsO).alloc movesO)
  rw [hix] at hixc
  have d0 : ((w.alloc signsO).alloc movesO).cell? ⟨b, 0, none⟩ = some (.string ⟨S.toArray⟩) := (h.below hbO2).blk.cell 0 rfl
  have H := Lib.hid h
  have HBO := Lib.hid hbO2
  clear h hbO hbO2 hp ht1 ht2 hix hr
  rcases hno with k48 | ⟨k48, k50⟩ | ⟨k48, k50, k1⟩ | ⟨k48, k50, l2, d, is1, k60, k62⟩
  · have k48' : (c.toNat : Int) < 48 := by omega
    go_enter Tryz.func32, Tryz.ntmps32
    go_wp2_with fail
    refine hcp.mono ?_
    rintro e w1 ⟨rfl, rfl⟩
    clear hcp
    go_wp2_with fail
    refine hh1.mono ?_
    rintro e w1 ⟨rfl, rfl⟩
    clear hh1
    go_wp2_with fail
    refine hh2.mono ?_
    rintro e w1 ⟨rfl, rfl⟩
    clear hh2
    go_wp2_with fail
    refine hta.mono ?_
    rintro e w2 ⟨rfl, rfl⟩
    clear hta
    go_wp2_with fail
    refine hta2.mono ?_
    rintro e w2 ⟨rfl, rfl⟩
    clear hta2
    go_wp2_with fail
    refine hixc.mono ?_
    rintro e w2 ⟨rfl, rfl⟩
    clear hixc
    go_wp2_with fail
    refine hw.mono ?_
    rintro e w2 ⟨rfl, v2, hx⟩
    have HX := Lib.hid ((H.out.is.below HBO.out).trans hx)
    clear hx hw
    go_wp2_with fail
    refine bodyPost_end (results_none rfl _ _ _) rfl ?_
    exact ⟨rfl, v2, HX.out⟩
  · have k50' : 50 < (c.toNat : Int) := by omega
    go_enter Tryz.func32, Tryz.ntmps32
    go_wp2_with fail
    refine hcp.mono ?_
    rintro e w1 ⟨rfl, rfl⟩
    clear hcp
    go_wp2_with fail
    refine hh1.mono ?_
    rintro e w1 ⟨rfl, rfl⟩
    clear hh1
    go_wp2_with fail
    refine hh2.mono ?_
    rintro e w1 ⟨rfl, rfl⟩
    clear hh2
    go_wp2_with fail
    refine hta.mono ?_
    rintro e w2 ⟨rfl, rfl⟩
    clear hta
    go_wp2_with fail
    refine hta2.mono ?_
    rintro e w2 ⟨rfl, rfl⟩
    clear hta2
    go_wp2_with fail
    refine hixc.mono ?_
    rintro e w2 ⟨rfl, rfl⟩
    clear hixc
    go_wp2_with fail
    refine hw.mono ?_
    rintro e w2 ⟨rfl, v2, hx⟩
    have HX := Lib.hid ((H.out.is.below HBO.out).trans hx)
    clear hx hw
    go_wp2_with fail
    refine bodyPost_end (results_none rfl _ _ _) rfl ?_
    exact ⟨rfl, v2, HX.out⟩
  · have k1' : ¬ 1 < S.length := by omega
    have k1'' : ¬ (1 : Int) < (S.length : Int) := by omega
    go_enter Tryz.func32, Tryz.ntmps32
    go_wp2_with fail
    refine hcp.mono ?_
    rintro e w1 ⟨rfl, rfl⟩
    clear hcp
    go_wp2_with fail
    refine hh1.mono ?_
    rintro e w1 ⟨rfl, rfl⟩
    clear hh1
    go_wp2_with fail
    refine hh2.mono ?_
    rintro e w1 ⟨rfl, rfl⟩
    clear hh2
    go_wp2_with fail
    refine hta.mono ?_
    rintro e w2 ⟨rfl, rfl⟩
    clear hta
    go_wp2_with fail
    refine hta2.mono ?_
    rintro e w2 ⟨rfl, rfl⟩
    clear hta2
    go_wp2_with fail
    refine hixc.mono ?_
    rintro e w2 ⟨rfl, rfl⟩
    clear hixc
    go_wp2_with fail
    refine hw.mono ?_
    rintro e w2 ⟨rfl, v2, hx⟩
    have HX := Lib.hid ((H.out.is.below HBO.out).trans hx)
    clear hx hw
    go_wp2_with fail
    refine bodyPost_end (results_none rfl _ _ _) rfl ?_
    exact ⟨rfl, v2, HX.out⟩
  · have k1' : 1 < S.length := by omega
    have k1'' : (1 : Int) < (S.length : Int) := by omega
    go_enter Tryz.func32, Tryz.ntmps32
    go_wp2_with fail
    refine hcp.mono ?_
    rintro e w1 ⟨rfl, rfl⟩
    clear hcp
    go_wp2_with fail
    refine hh1.mono ?_
    rintro e w1 ⟨rfl, rfl⟩
    clear hh1
    go_wp2_with fail
    refine hh2.mono ?_
    rintro e w1 ⟨rfl, rfl⟩
    clear hh2
    go_wp2_with fail
    refine hta.mono ?_
    rintro e w2 ⟨rfl, rfl⟩
    clear hta
    go_wp2_with fail
    refine hta2.mono ?_
    rintro e w2 ⟨rfl, rfl⟩
    clear hta2
    go_wp2_with fail
    refine hixc.mono ?_
    rintro e w2 ⟨rfl, rfl⟩
    clear hixc
    go_wp2_with fail
    refine hw.mono ?_
    rintro e w2 ⟨rfl, v2, hx⟩
    have HX := Lib.hid ((H.out.is.below HBO.out).trans hx)
    clear hx hw
    go_wp2_with fail
    refine bodyPost_end (results_none rfl _ _ _) rfl ?_
    exact ⟨rfl, v2, HX.out⟩

theorem wordF_le : ∀ (f : Nat) (bi s bo s2 : Wd.Bytes), Wd.wordF f bi s = some (bo, s2) → s2.length ≤ s.length := by
  intro f
  induction f with
  | zero => intro bi s bo s2 h; cases h
  | succ f ih =>
    intro bi s bo s2 h
    rw [Wd.wordF.eq_def] at h
    cases s with
    | nil => simp only at h; cases h; exact Nat.le_refl _
    | cons c r =>
      simp only at h
      split at h
      · cases h; exact Nat.le_refl _
      · split at h
        · cases h
        · split at h
          · cases h
          · have := ih _ _ _ _ h
            rw [List.length_drop] at this
            omega

def numA (r : Wd.Bytes) : Bool := match r with
  | [] => false
  | d :: _ => d == 60 || d == 62

/-- A token: whatever stands here. -/
theorem token_any (w : World) (b : Nat) (s : Wd.Bytes) (l : List (Nat × Wd.Bytes)) (v : Value) (l2 : List (Nat × Wd.Bytes)) (s2 : Wd.Bytes) (h : LxAt w b s l v) (hl : l.length ≤ 1073741824) (hs : s.length < 1073741824) (hr : Wd.token l s = some (l2, s2)) :
    (Calls Tryz.prog 32 #[.pointer (some ⟨b, 0, none⟩)] w fun e w' => e = .returned (.tuple #[]) ∧ ∃ v', LxIs w w' b s2 l2 v v') ∧ l2.length ≤ l.length + 1 ∧ s2.length ≤ s.length := by
  unfold Wd.token at hr
  cases s with
  | nil => cases hr
  | cons c r =>
    simp only at hr
    by_cases h1 : c = 32 ∨ c = 9
    · rw [if_pos h1] at hr
      cases hr
      exact ⟨(token_blank w b c _ l v h hs h1).mono fun e w' ⟨he, hx⟩ => ⟨he, v, hx⟩, by omega, by simp⟩
    rw [if_neg h1] at hr
    by_cases h2 : Wd.pre [92, 10] (c :: r) = true
    · rw [if_pos h2] at hr; cases hr
    rw [if_neg h2] at hr
    by_cases h3 : c = 35
    · subst h3
      rw [if_pos rfl] at hr
      cases hi : Wd.idx 10 (35 :: r) with
      | some n => rw [hi] at hr; cases hr
      | none =>
        rw [hi] at hr
        cases hr
        exact ⟨(token_remark w b r l v h hs hi).mono fun e w' ⟨he, hx⟩ => ⟨he, v, hx⟩, by omega, by simp⟩
    rw [if_neg h3] at hr
    by_cases h4 : (Wd.pre [59, 59] (c :: r) || Wd.pre [60, 60] (c :: r)) = true
    · rw [if_pos h4] at hr; cases hr
    rw [if_neg h4] at hr
    have hp : PlainIn (c :: r) c := by
      refine ⟨fun _ => rfl, by simp, hs, u8_lit (fun e => h1 (.inl e)) (by decide), u8_lit (fun e => h1 (.inr e)) (by decide), u8_lit h3 (by decide), by simpa using h2, ?_, ?_⟩
      · cases hx : Wd.pre [59, 59] (c :: r) with
        | false => rfl
        | true => exact absurd (by rw [hx]; rfl) h4
      · cases hx : Wd.pre [60, 60] (c :: r) with
        | false => rfl
        | true => exact absurd (by rw [hx, Bool.or_true]) h4
    cases ht1 : Wd.takes (c :: r) Wd.signs with
    | some t =>
      rw [ht1] at hr
      cases hr
      exact ⟨token_sign w b c _ l v h hl hp t ht1, by simp, by rw [List.length_drop]; omega⟩
    | none =>
      rw [ht1] at hr
      simp only at hr
      cases ht2 : Wd.takes (c :: r) Wd.moves with
      | some t =>
        rw [ht2] at hr
        cases hr
        exact ⟨token_move w b c _ l v h hl hp t ht1 ht2, by simp, by rw [List.length_drop]; omega⟩
      | none =>
        rw [ht2] at hr
        simp only at hr
        have hwt : Wd.within c 48 50 = true ↔ 48 ≤ c.toNat ∧ c.toNat ≤ 50 := by
          unfold Wd.within
          rw [Bool.and_eq_true, decide_eq_true_iff, decide_eq_true_iff, UInt8.le_iff_toNat_le, UInt8.le_iff_toNat_le]
          rfl
        change (if (Wd.within c 48 50 && numA r) = true then _ else _) = _ at hr
        by_cases h5 : (Wd.within c 48 50 && numA r) = true
        · rw [if_pos h5] at hr
          cases hr
          have h6 := Bool.and_eq_true_iff.1 h5
          cases s2 with
          | nil => simp [numA] at h6
          | cons d r2 =>
            have hd : d = 60 ∨ d = 62 := by simpa [numA] using h6.2
            exact ⟨token_number w b c _ l v h hl hp d ht1 ht2 (hwt.1 h6.1).1 (hwt.1 h6.1).2 hd (fun _ => rfl) (by simp) rfl, by simp, by simp⟩
        · rw [if_neg h5] at hr
          by_cases h6 : c = 38 ∨ c = 40 ∨ c = 41
          · rw [if_pos h6] at hr; cases hr
          rw [if_neg h6] at hr
          cases hw : Wd.wordF ((c :: r).length + 1) [] (c :: r) with
          | none => rw [hw] at hr; cases hr
          | some x =>
            obtain ⟨bts, s3⟩ := x
            rw [hw] at hr
            simp only at hr
            by_cases hb : bts = []
            · rw [if_pos hb] at hr; cases hr
            rw [if_neg hb] at hr
            cases hr
            have hno : NoNum (c :: r) c := by
              unfold NoNum
              by_cases k1 : (48 : Int) ≤ (c.toNat : Int)
              · by_cases k2 : (c.toNat : Int) ≤ 50
                · cases r with
                  | nil => exact .inr (.inr (.inl ⟨k1, k2, rfl⟩))
                  | cons d r2 =>
                    refine .inr (.inr (.inr ⟨k1, k2, by simp, d, fun _ => rfl, ?_⟩))
                    have h7 : Wd.within c 48 50 = true := hwt.2 ⟨by omega, by omega⟩
                    rw [h7, Bool.true_and] at h5
                    simp [numA] at h5
                    exact ⟨u8_lit h5.1 (by decide), u8_lit h5.2 (by decide)⟩
                · exact .inr (.inl ⟨k1, k2⟩)
              · exact .inl k1
            have hix : Wd.idx c [38, 40, 41] = none := by
              have e1 : ¬ (38 : UInt8) = c := fun e => h6 (.inl e.symm)
              have e2 : ¬ (40 : UInt8) = c := fun e => h6 (.inr (.inl e.symm))
              have e3 : ¬ (41 : UInt8) = c := fun e => h6 (.inr (.inr e.symm))
              simp [Wd.idx, e1, e2, e3]
            exact ⟨token_word w b c _ l v h hl hp ht1 ht2 hno hix bts _ hw hb, by simp, wordF_le _ _ _ _ _ hw⟩

/-- What a round of Lex's own loop knows. -/
structure LexIn (w wr : World) (b : Nat) (v v1 : Value) (s : Wd.Bytes) (l L : List (Nat × Wd.Bytes)) (g N : Nat) : Prop where
  run : Wd.lexF g l s = some L
  lx : LxIs w wr b s l v v1
  ls : s.length < 1073741824
  ll : l.length + g ≤ N

set_option maxHeartbeats 3200000 in
set_option maxRecDepth 100000 in
theorem lex1_any (w : World) (b q F : Nat) (s : Wd.Bytes) (l L : List (Nat × Wd.Bytes)) (v : Value) (h : LxAt w b s l v) (kq : w.cell? ⟨q, 0, none⟩ = some (.pointer (some ⟨b, 0, none⟩))) (hq : ¬ (q = b ∨ v.ownBlock = some q)) (hs : s.length < 1073741824) (hl : l.length + F ≤ 1073741824) (hr : Wd.lexF F l s = some L) :
    Calls Tryz.prog 31 #[.pointer (some ⟨q, 0, none⟩)] w fun e w' => e = .returned (.tuple #[]) ∧ ∃ v', LxIs w w' b [] L v v' := by
  have H : Hid (LexIn w w b v v s l L F 1073741824) := ⟨hr, h.is, hs, hl⟩
  have HK := Lib.hid kq
  have hql := World.block_lt_of_cell? _ _ kq
  clear h hr kq hl hs
  go_enter Tryz.func31, Tryz.ntmps31
  go_wp2_with fail
  go_loopg [1] F (fun g _ wr => ∃ (s1 : Wd.Bytes) (l1 : List (Nat × Wd.Bytes)) (v1 : Value), g ≤ F ∧ Hid (LexIn w wr b v v1 s1 l1 L g 1073741824))
  case atStart => exact ⟨s, l, v, Nat.le_refl _, H⟩
  case round =>
    obtain ⟨s1, l1, v1, hg, HR⟩ := hrel
    obtain ⟨k, rfl⟩ : ∃ k, gk = k + 1 := by
      cases gk with
      | zero => exact absurd HR.out.run (by simp [Wd.lexF])
      | succ k => exact ⟨k, rfl⟩
    have hr := HR.out.run
    have hlx := HR.out.lx
    have hll := HR.out.ll
    have c0 : wr.cell? ⟨b, 0, none⟩ = some (.string ⟨s1.toArray⟩) := hlx.at_.blk.cell 0 rfl
    have cq : wr.cell? ⟨q, 0, none⟩ = some (.pointer (some ⟨b, 0, none⟩)) := by
      rw [← HK.out]
      exact World.cell?_of_block (hlx.kept.block q hql hq)
    rw [Wd.lexF.eq_def] at hr
    cases s1 with
    | nil =>
      simp only at hr
      obtain rfl := Option.some.inj hr
      have HX := Lib.hid hlx
      clear hlx hr HR
      go_wp2_with fail
      refine bodyPost_end (results_none rfl _ _ _) rfl ?_
      exact ⟨rfl, v1, HX.out⟩
    | cons c r =>
      simp only at hr
      cases ht : Wd.token l1 (c :: r) with
      | none => rw [ht] at hr; cases hr
      | some x =>
        obtain ⟨l2, s2⟩ := x
        rw [ht] at hr
        simp only at hr
        obtain ⟨hcall, h2, h3⟩ := token_any wr b (c :: r) l1 v1 l2 s2 hlx.at_ (by omega) HR.out.ls ht
        have hSe : (c :: r).isEmpty = false := rfl
        have HX := Lib.hid hlx
        have HRUN := Lib.hid hr
        have HLS := Lib.hid HR.out.ls
        clear hlx hr HR ht
        generalize (c :: r) = S at *
        go_wp2_with fail
        refine hcall.mono ?_
        rintro e w2 ⟨rfl, v2, hx⟩
        have HX2 := Lib.hid (HX.out.trans hx)
        clear hx hcall
        go_wp2_with fail
        go_roundg k
        case measure => omega
        case rel => exact ⟨s2, l2, v2, by omega, HRUN.out, HX2.out, by have := HLS.out; omega, by omega⟩

end Go.Proofs.YtfoehfehnmhhmaaGreatDoor
