/-
  Texts of this seat put together: V14.
-/
import Derived.Test.YtbpcfjoebfbjmaaGreatDoorQ20
import Derived.Test.YtbpcfjoebfbjmaaGreatDoorQ10

/-
  The walk of unexpand's filter, of one distance of stops, all blanks. Conditions: a distance of at most 255; no backspace; lengths.
-/
namespace Go.Proofs.YtbpcfjoebfbjmaaGreatDoor
open Go.RowKit Go.Shelf Go.Maps

/-- Where the filter stands. -/
structure UxSt (w wr : World) (s : Nat) (L OUT : Bts) (a col k : Nat) (O : Bts) (v : Value) : Prop where
  own : wr.ownsRow w.heap.size 5 1 v O.length (O.map u8V)
  ob : v.ownBlock ≠ some w.heap.size
  blk : Blk wr w.heap.size #[.int .i64 col] 237
  bel : Below w.heap.size w wr
  eq : O ++ Wi.unexpandF s k col (L.drop a) = OUT
  le : col ≤ a * s
  fuel : L.length - a ≤ k
  len : a ≤ L.length

theorem foldl_tab_le (s : Nat) (hs : 1 ≤ s) : ∀ (P : Bts) (col : Nat), P.foldl (Wi.tabCol s) col ≤ col + P.length * s ∧ col ≤ P.foldl (Wi.tabCol s) col := by
  intro P
  induction P with
  | nil => intro col; simp
  | cons c r ih =>
    intro col
    have h1 := tabCol_le s col hs c
    have h2 := ih (Wi.tabCol s col c)
    have h3 : col ≤ Wi.tabCol s col c := by
      unfold Wi.tabCol
      split
      · exact nextOf_gt s col hs
      · omega
    simp only [List.foldl_cons, List.length_cons, Nat.add_mul, Nat.one_mul]
    omega
theorem take_foldl (s : Nat) (P : Bts) (j : Nat) (h : j < P.length) (c : UInt8) (hc : P.getD j 0 = c) (col : Nat) : Wi.tabCol s ((P.take j).foldl (Wi.tabCol s) col) c = (P.take (j + 1)).foldl (Wi.tabCol s) col := by
  have hk : P[j] = c := by rw [← hc, List.getD_eq_getElem?_getD, List.getElem?_eq_getElem h]; rfl
  rw [List.take_succ_eq_append_getElem h, List.foldl_append, hk]
  rfl
theorem takeWhile_getD (p : UInt8 → Bool) : ∀ (R : Bts) (j : Nat), j < (R.takeWhile p).length → (R.takeWhile p).getD j 0 = R.getD j 0 ∧ p (R.getD j 0) = true := by
  intro R
  induction R with
  | nil => intro j h; simp at h
  | cons c r ih =>
    intro j h
    rw [List.takeWhile_cons] at h ⊢
    by_cases hc : p c = true
    · rw [if_pos hc] at h ⊢
      cases j with
      | zero => simp [hc]
      | succ j => simpa using ih j (by simpa using h)
    · rw [if_neg hc] at h; simp at h
theorem takeWhile_end (p : UInt8 → Bool) : ∀ (R : Bts), (R.takeWhile p).length < R.length → p (R.getD (R.takeWhile p).length 0) = false := by
  intro R
  induction R with
  | nil => intro h; simp at h
  | cons c r ih =>
    intro h
    rw [List.takeWhile_cons] at h ⊢
    by_cases hc : p c = true
    · rw [if_pos hc] at h ⊢
      simpa using ih (by simpa using h)
    · rw [if_neg hc]; simpa using hc
theorem dropWhile_drop (p : UInt8 → Bool) (R : Bts) : R.dropWhile p = R.drop (R.takeWhile p).length := by
  have h := List.takeWhile_append_dropWhile (p := p) (l := R)
  have h2 := congrArg (List.drop (R.takeWhile p).length) h
  rw [List.drop_left] at h2
  exact h2
theorem takeWhile_take (p : UInt8 → Bool) (R : Bts) : R.takeWhile p = R.take (R.takeWhile p).length := by
  have h := List.takeWhile_append_dropWhile (p := p) (l := R)
  have h2 := congrArg (List.take (R.takeWhile p).length) h
  rw [List.take_left] at h2
  exact h2
theorem below_off {w wo wr : World} (h : Below w.heap.size w wo) (hk : Kept (fun i => i = w.heap.size) wo wr) : Below w.heap.size w wr :=
  ⟨hk.os.trans h.os, hk.tape.trans h.tape, hk.output.trans h.output, Nat.le_trans h.size hk.size, fun k hk' => (hk.block k (Nat.lt_of_lt_of_le hk' h.size) (by omega)).trans (h.block k hk')⟩
theorem unexpandF_blank (s k col : Nat) (R : Bts) (h : 1 ≤ (R.takeWhile Wi.blank).length) : Wi.unexpandF s (k + 1) col R = Wi.pieceOf s (R.takeWhile Wi.blank) col ((R.takeWhile Wi.blank).foldl (Wi.tabCol s) col) ++ Wi.unexpandF s k ((R.takeWhile Wi.blank).foldl (Wi.tabCol s) col) (R.drop (R.takeWhile Wi.blank).length) := by
  cases R with
  | nil => simp at h
  | cons c r =>
    have hc : Wi.blank c = true := by
      by_cases hc : Wi.blank c = true
      · exact hc
      · rw [List.takeWhile_cons, if_neg hc] at h; simp at h
    rw [← dropWhile_drop]
    conv => lhs; rw [Wi.unexpandF]
    simp only [hc, if_true]
theorem unexpandF_else (s k col : Nat) (R : Bts) (hR : 0 < R.length) (h : Wi.blank (R.getD 0 0) = false) : Wi.unexpandF s (k + 1) col R = R.getD 0 0 :: Wi.unexpandF s k (col + 1) (R.drop 1) := by
  cases R with
  | nil => simp at hR
  | cons c r =>
    have hc : Wi.blank c = false := by simpa using h
    rw [Wi.unexpandF]
    simp [hc]

set_option maxRecDepth 100000 in
set_option maxHeartbeats 16000000 in
theorem unexpander1_any (ab sb b o cc s : Nat) (hs1 : 1 ≤ s) (hs2 : s ≤ 255) (hcc : 1 ≤ cc) (L : Bts) (hl : L.length ≤ 4294967296) (ho : (Wi.unexpand s L).length ≤ 4294967296) (hm : ∀ c ∈ L, c ≠ 8) (lv : Value) (N : Nat → Prop) (w : World) (hs : SlE w N lv L)
    (c0 : w.cell? ⟨ab, 0, none⟩ = some (.bool true)) (c1 : w.cell? ⟨sb, 0, none⟩ = some (.slice (some ⟨b, o, none⟩) 1 cc)) (c2 : w.cell? ⟨b, o, none⟩ = some (.int .i64 s)) (hcap : ∀ p n c, lv = .slice p n c → n ≤ c) :
    Calls Tryz.prog 134 #[lv, .pointer (some ⟨ab, 0, none⟩), .pointer (some ⟨sb, 0, none⟩)] w fun e w' => ∃ v, e = .returned v ∧ SlE w' (fun j => w.heap.size ≤ j) v (Wi.unexpand s L) ∧ Below w.heap.size w w' := by
  have l0 := World.block_lt_of_cell? _ _ c0
  have l1 := World.block_lt_of_cell? _ _ c1
  have l2 := World.block_lt_of_cell? _ _ c2
  obtain ⟨p, c, rfl, hbs⟩ := hs.bs
  have hc := hcap _ _ _ rfl
  obtain ⟨w1, hw1⟩ : ∃ w1, w.alloc (.cells #[.int .i64 0] 237) = w1 := ⟨_, rfl⟩
  have hb1 : Below w.heap.size w w1 := by rw [← hw1]; exact (Below.refl _ _).alloc (Nat.le_refl _) _
  have hst : UxSt w w1 s L (Wi.unexpand s L) 0 0 L.length [] (.slice none 0 0) :=
    ⟨World.ownsRow_nil _ _ _ _, by simp [Value.ownBlock], by rw [← hw1]; exact Blk.new _ _ _, hb1, rfl, Nat.zero_le _, Nat.le_refl _, Nat.zero_le _⟩
  generalize hOUT : Wi.unexpand s L = OUT at *
  have HST := Lib.hid hst
  have H0 := Lib.hid c0
  have H1 := Lib.hid c1
  have H2 := Lib.hid c2
  have HBS := Lib.hid hbs
  have HM := Lib.hid hm
  clear hst c0 c1 c2 hm hbs hOUT hs hb1 hcap
  go_enter Tryz.func134, Tryz.ntmps134
  go_wp2_with fail
  try rw [hw1]
  clear hw1
  go_loopw [5, 7, 8, 9] (fun x5 x7 _x8 _x9 wr => ∃ a col k O, x7 = .int .i64 ((a : Nat) : Int) ∧ Hid (UxSt w wr s L OUT a col k O x5)) (fun _ x7 _ _ _ => L.length - (intOf x7).toNat)
  case atStart => exact ⟨0, 0, _, [], rfl, HST⟩
  case round =>
    clear HST
    obtain ⟨a, col, k, O, rfl, HU⟩ := hrel
    obtain ⟨wo, hwo⟩ : ∃ wo, wo = wr := ⟨_, rfl⟩
    subst hwo
    by_cases hlt : a < L.length
    · have e1 : decide ((a : Int) < (L.length : Int)) = true := decide_eq_true (by omega)
      obtain ⟨g, q, rfl, hcell⟩ := HBS.out (by omega)
      have hgl := World.block_lt_of_cell? _ _ (hcell 0 (by omega))
      obtain ⟨k, rfl⟩ : ∃ k1, k = k1 + 1 := ⟨k - 1, by have := HU.out.fuel; omega⟩
      have b0 := HU.out.blk.cell 0 (v := .int .i64 col) rfl
      obtain ⟨R, hR⟩ : ∃ R, L.drop a = R := ⟨_, rfl⟩
      have hRl : R.length = L.length - a := by rw [← hR, List.length_drop]
      have hRat : ∀ j, R.getD j 0 = L.getD (a + j) 0 := fun j => by rw [← hR, getD_drop]
      obtain ⟨P, hP⟩ : ∃ P, R.takeWhile Wi.blank = P := ⟨_, rfl⟩
      have hPl : P.length ≤ R.length := by rw [← hP]; exact (List.takeWhile_prefix _).length_le
      have hcolb : col ≤ a * s := HU.out.le
      have hmul : L.length * s ≤ 4294967296 * 255 := Nat.mul_le_mul hl hs2
      have HR := Lib.hid (And.intro hR (And.intro hRl (And.intro hRat (And.intro hP hPl))))
      have HC := Lib.hid (And.intro hcolb hmul)
      have HG := Lib.hid hcell
      clear hR hRl hRat hP hPl hcolb hmul hcell
      cases e0 : ((a : Int) == 0) with
      | true =>
        go_wp2_with fail
        go_loopw [8] (fun x8 wx => ∃ j n : Nat, j ≤ P.length ∧ x8 = .int .i64 (n : Int) ∧ Hid (n = a + j) ∧ Hid (Kept (fun i => i = w.heap.size) wo wx) ∧ Hid (Blk wx w.heap.size #[.int .i64 (((P.take j).foldl (Wi.tabCol s) col : Nat) : Int)] 237)) (fun x8 _ => L.length - (intOf x8).toNat)
        case atStart => exact ⟨0, a, Nat.zero_le _, rfl, Lib.hid rfl, Lib.hid (Kept.refl _ _), Lib.hid (by simpa using HU.out.blk)⟩
        case round =>
          clear b0
          obtain ⟨j, n, hj, rfl, HN, HK, HB⟩ := hrel
          have hbw := below_off HU.out.bel HK.out
          have hn := HN.out
          obtain ⟨hR, hRl, hRat, hP, hPl⟩ := HR.out
          have a1 : wr.cell? ⟨ab, 0, none⟩ = some (.bool true) := (hbw.cell (p := ⟨ab, 0, none⟩) l0).trans H0.out
          have a2 : wr.cell? ⟨sb, 0, none⟩ = some (.slice (some ⟨b, o, none⟩) 1 cc) := (hbw.cell (p := ⟨sb, 0, none⟩) l1).trans H1.out
          have a3 : wr.cell? ⟨b, o, none⟩ = some (.int .i64 s) := (hbw.cell (p := ⟨b, o, none⟩) l2).trans H2.out
          have hfl := foldl_tab_le s hs1 (P.take j) col
          rw [List.length_take, Nat.min_eq_left hj] at hfl
          have hmj : (a + j) * s ≤ L.length * s := Nat.mul_le_mul_right s (by omega)
          rw [Nat.add_mul] at hmj
          have hcb := HC.out
          obtain ⟨cj, hcj⟩ : ∃ cj, (P.take j).foldl (Wi.tabCol s) col = cj := ⟨_, rfl⟩
          rw [hcj] at hfl
          by_cases hjl : j < P.length
          · have hpj := takeWhile_getD Wi.blank R j (by rw [hP]; exact hjl)
            rw [hP] at hpj
            obtain ⟨ch, hch⟩ : ∃ ch, R.getD j 0 = ch := ⟨_, rfl⟩
            rw [hch] at hpj
            have hLn : L.getD n 0 = ch := by rw [hn, ← hRat j]; exact hch
            have hnl : n < L.length := by omega
            have e3 : decide ((n : Int) < (L.length : Int)) = true := decide_eq_true (by omega)
            have a0 : wr.cell? ⟨g, q + n, none⟩ = some (.int .u8 ch.toNat) := (hbw.cell (p := ⟨g, q + n, none⟩) hgl).trans (by rw [← hLn]; exact HG.out n hnl)
            have h8 : ch ≠ 8 := HM.out ch (by rw [← hLn, List.getD_eq_getElem?_getD, List.getElem?_eq_getElem hnl]; exact List.getElem_mem _)
            have hbl := blank_any ch wr
            rw [hpj.2] at hbl
            have hB := HB.out
            rw [hcj] at hB
            have htab := tab_any w.heap.size s cj hs1 (by omega) (by omega) ch h8 b o cc hcc wr.drew a3 ((Blk.drew hB).cell 0 rfl) ((Blk.drew hB).free 0)
            have hnx := take_foldl s P j hjl ch hpj.1 col
            rw [hcj] at hnx
            obtain ⟨w4, hw4⟩ : ∃ w4, wr.drew.setCell ⟨w.heap.size, 0, none⟩ (.int .i64 ((Wi.tabCol s cj ch : Nat) : Int)) = w4 := ⟨_, rfl⟩
            rw [hw4] at htab
            have hk4 : Kept (fun i => i = w.heap.size) wo w4 := by rw [← hw4]; exact (HK.out.drew).setCell (.inl rfl) 0 _
            have hb4 : Blk w4 w.heap.size #[.int .i64 (((P.take (j + 1)).foldl (Wi.tabCol s) col : Nat) : Int)] 237 := by rw [← hw4, ← hnx]; exact (Blk.drew hB).set 0 _
            have hbw4 := below_off HU.out.bel hk4
            have HS4 : Hid (w4.cell? ⟨g, q + n, none⟩ = some (.int .u8 ch.toNat) ∧ w4.cell? ⟨sb, 0, none⟩ = some (.slice (some ⟨b, o, none⟩) 1 cc)) := Lib.hid ⟨(hbw4.cell (p := ⟨g, q + n, none⟩) hgl).trans (by rw [← hLn]; exact HG.out n hnl), (hbw4.cell (p := ⟨sb, 0, none⟩) l1).trans H1.out⟩
            have HT := Lib.hid htab
            have HK4 := Lib.hid hk4
            have HB4 := Lib.hid hb4
            have HJ := Lib.hid (And.intro hjl hnl)
            have f1 : (n : Int) < L.length := by omega
            clear hbw hn hR hRl hRat hP hPl a3 hfl hmj hcb hcj hpj hch hLn h8 hB htab hnx hw4 hk4 hb4 hbw4 hjl hj
            go_wp2_with fail
            refine hbl.mono ?_
            rintro e w5 ⟨rfl, rfl⟩
            clear hbl
            go_wp2_with fail
            go_region_held3 (fun w' => w'.cell? ⟨g, q + n, none⟩ = some (.int .u8 ch.toNat) ∧ w'.cell? ⟨sb, 0, none⟩ = some (.slice (some ⟨b, o, none⟩) 1 cc)) (first | go_keep | with_reducible exact HS4.out)
              ((go_at_call 132; refine HT.out.mono ?_; rintro e w5 ⟨⟨v, rfl⟩, rfl⟩))
            go_wp2_with fail
            go_roundw
            case rel => exact ⟨j + 1, n + 1, HJ.out.1, by go_num, Lib.hid (by have := HN.out; omega), HK4, HB4⟩
            case measure => have := HJ.out; simp [intOf]; omega
          · obtain rfl : j = P.length := by omega
            rw [List.take_length] at hcj
            by_cases hnl : n < L.length
            · have hpe := takeWhile_end Wi.blank R (by rw [hP]; omega)
              rw [hP] at hpe
              obtain ⟨ch, hch⟩ : ∃ ch, R.getD P.length 0 = ch := ⟨_, rfl⟩
              rw [hch] at hpe
              have hLn : L.getD n 0 = ch := by rw [hn, ← hRat P.length]; exact hch
              have e3 : decide ((n : Int) < (L.length : Int)) = true := decide_eq_true (by omega)
              have a0 : wr.cell? ⟨g, q + n, none⟩ = some (.int .u8 ch.toNat) := (hbw.cell (p := ⟨g, q + n, none⟩) hgl).trans (by rw [← hLn]; exact HG.out n hnl)
              have hbl := blank_any ch wr
              rw [hpe] at hbl
              have f1 : (n : Int) < L.length := by omega
              by_cases hp0 : P.length = 0
              · have e4 : decide (a < n) = false := decide_eq_false (by omega)
                have hPn : P = [] := List.eq_nil_of_length_eq_zero hp0
                rw [hPn, List.foldl_nil] at hcj
                subst hcj
                rw [hp0] at hch
                have heq := HU.out.eq
                rw [hR, unexpandF_else s k col R (by omega) (by rw [hch]; exact hpe), hch] at heq
                have hdr : R.drop 1 = L.drop (a + 1) := by rw [← hR, List.drop_drop]
                rw [hdr] at heq
                have hle := congrArg List.length heq
                simp only [List.length_append, List.length_cons] at hle
                have hB := HB.out
                rw [hPn, List.take_nil, List.foldl_nil] at hB
                have h8 : ch ≠ 8 := HM.out ch (by rw [← hLn, List.getD_eq_getElem?_getD, List.getElem?_eq_getElem hnl]; exact List.getElem_mem _)
                have htab := tab_any w.heap.size s col hs1 (by omega) (by omega) ch h8 b o cc hcc wr.drew a3 ((Blk.drew hB).cell 0 rfl) ((Blk.drew hB).free 0)
                have h9 : ch ≠ 9 := fun e => by rw [e] at hpe; exact absurd hpe (by decide)
                have htc : Wi.tabCol s col ch = col + 1 := by unfold Wi.tabCol; rw [if_neg h9]
                rw [htc] at htab
                obtain ⟨w4, hw4⟩ : ∃ w4, wr.drew.setCell ⟨w.heap.size, 0, none⟩ (.int .i64 ((col + 1 : Nat) : Int)) = w4 := ⟨_, rfl⟩
                rw [hw4] at htab
                have hk4 : Kept (fun i => i = w.heap.size) wo w4 := by rw [← hw4]; exact (HK.out.drew).setCell (.inl rfl) 0 _
                have hb4 : Blk w4 w.heap.size #[.int .i64 ((col + 1 : Nat) : Int)] 237 := by rw [← hw4]; exact (Blk.drew hB).set 0 _
                have hbw4 := below_off HU.out.bel hk4
                have hLa : L.getD a 0 = ch := by rw [show a = n by omega]; exact hLn
                have a0' : wr.cell? ⟨g, q + a, none⟩ = some (.int .u8 ch.toNat) := (hbw.cell (p := ⟨g, q + a, none⟩) hgl).trans (by rw [← hLa]; exact HG.out a hlt)
                have HS : Hid (wr.cell? ⟨g, q + a, none⟩ = some (.int .u8 ch.toNat) ∧ wr.cell? ⟨sb, 0, none⟩ = some (.slice (some ⟨b, o, none⟩) 1 cc)) := Lib.hid ⟨a0', a2⟩
                have HS4 : Hid (w4.cell? ⟨g, q + a, none⟩ = some (.int .u8 ch.toNat) ∧ w4.cell? ⟨sb, 0, none⟩ = some (.slice (some ⟨b, o, none⟩) 1 cc)) := Lib.hid ⟨(hbw4.cell (p := ⟨g, q + a, none⟩) hgl).trans (by rw [← hLa]; exact HG.out a hlt), (hbw4.cell (p := ⟨sb, 0, none⟩) l1).trans H1.out⟩
                have hown4 := row_off HU.out.own hk4 HU.out.ob
                have hal : Below w4.heap.size w4 (w4.alloc (.cells #[.int .u8 ch.toNat] 5)) := (Below.refl _ _).alloc (Nat.le_refl _) _
                have HOWN := Lib.hid (row_keep hown4 hal)
                have HLIT := Lib.hid (bs_one w4 ch 5)
                have HAL := Lib.hid hal
                have HT := Lib.hid htab
                have HB4 := Lib.hid hb4
                have HBW4 := Lib.hid hbw4
                have HSW := Lib.hid (Nat.le_trans hbw4.size hal.size)
                have HEQ := Lib.hid heq
                have HJ := Lib.hid (And.intro (show O.length + ([ch] : Bts).length ≤ 4294967296 by simp only [List.length_singleton]; omega) (show col + 1 ≤ (a + 1) * s by rw [Nat.add_mul]; omega))
                have f2 : (a : Int) < L.length := by omega
                clear hR hRl hRat hP hPl a3 hfl hmj hcb heq hdr hle hB hj hbw hjl hp0 hnl hn hPn h8 htab h9 htc hw4 hk4 hb4 hbw4 hLa hLn hown4 hal hch
                go_wp2_with fail
                refine hbl.mono ?_
                rintro e w9 ⟨rfl, rfl⟩
                clear hbl
                go_wp2_with fail
                go_region_held3 (fun w' => w'.cell? ⟨g, q + a, none⟩ = some (.int .u8 ch.toNat) ∧ w'.cell? ⟨sb, 0, none⟩ = some (.slice (some ⟨b, o, none⟩) 1 cc)) (first | go_keep | with_reducible exact HS.out | with_reducible exact HS4.out)
                  ((go_at_call 132; refine HT.out.mono ?_; rintro e w5 ⟨⟨v, rfl⟩, rfl⟩))
                have a5 := HS4.out.1
                go_wp2_with (at_builtin; refine append_bytes rfl _ _ rfl w.heap.size _ O.length (O.map u8V) (by go_simp) HOWN.out (some ⟨w5.heap.size, 0, none⟩) [ch] 1 (by go_simp) HLIT.out HJ.out.1 HSW.out ?_; intro v1 u1 ho1 hg1 hv1; have HO1 := Lib.hid ho1; have HG1 := Lib.hid hg1; have HV1 := Lib.hid hv1; clear ho1 hg1 hv1 HOWN)
                have hux : UxSt w u1 s L OUT (a + 1) (col + 1) k (O ++ [ch]) v1 := by
                  have hblk : Blk (w5.alloc (.cells #[.int .u8 ch.toNat] 5)) w.heap.size #[.int .i64 ((col + 1 : Nat) : Int)] 237 := HB4.out.keep HAL.out HB4.out.lt
                  refine ⟨by rw [List.length_append, List.map_append]; exact HO1.out, fun e => ?_, hblk.grown HG1.out HU.out.ob, (HBW4.out.trans (HAL.out.mono HBW4.out.size)).trans (below_grown HG1.out (row_blk HU.out.own) HSW.out), by rw [List.append_assoc]; exact HEQ.out, HJ.out.2, by have := HU.out.fuel; omega, by omega⟩
                  rcases HV1.out with h | h
                  · exact HU.out.ob (h.symm.trans e)
                  · have := hblk.lt
                    rw [h] at e
                    injection e with e
                    omega
                exact ⟨⟨a + 1, col + 1, k, O ++ [ch], by go_num, Lib.hid hux⟩, by simp [intOf]; omega⟩
              · have hpp : 1 ≤ P.length := by omega
                have e4 : decide (a < n) = true := decide_eq_true (by omega)
                have heq := HU.out.eq
                rw [hR, unexpandF_blank s k col R (by rw [hP]; exact hpp), hP, hcj] at heq
                have hdr : R.drop P.length = L.drop n := by rw [← hR, List.drop_drop, hn]
                rw [hdr] at heq
                have hle := congrArg List.length heq
                simp only [List.length_append] at hle
                have hbP : Bs wr (some ⟨g, q + a, none⟩) P := fun _ => ⟨g, q + a, rfl, fun i hi => by
                  have h1 := takeWhile_getD Wi.blank R i (by rw [hP]; exact hi)
                  rw [hP] at h1
                  rw [h1.1, hRat i, Nat.add_assoc]
                  exact (hbw.cell (p := ⟨g, q + (a + i), none⟩) hgl).trans (HG.out (a + i) (by omega))⟩
                have hrun := run1_any b o cc s hs1 hs2 hcc P hpp (by omega) (some ⟨g, q + a, none⟩) (c - a) col cj hfl.2 (by omega) wr.drew (hbP.below (below_drew2 wr) (Nat.le_refl _)) (by omega) a3
                obtain ⟨XB, hXB⟩ : ∃ XB, Wi.pieceOf s P col cj = XB := ⟨_, rfl⟩
                rw [hXB] at hrun heq hle
                have hPn : P.length = n - a := by omega
                rw [hPn] at hrun
                have hown := row_off HU.out.own HK.out HU.out.ob
                have hB := HB.out
                rw [List.take_length, hcj] at hB
                have b1 := hB.cell 0 (v := .int .i64 cj) rfl
                have HB2 := Lib.hid hB
                have HOWN := Lib.hid hown
                have HRUN := Lib.hid hrun
                have HEQ := Lib.hid heq
                have HBW := Lib.hid hbw
                have HS : Hid (wr.cell? ⟨w.heap.size, 0, none⟩ = some (.int .i64 cj) ∧ wr.cell? ⟨sb, 0, none⟩ = some (.slice (some ⟨b, o, none⟩) 1 cc)) := Lib.hid ⟨b1, a2⟩
                have HJ := Lib.hid (And.intro (show O.length + XB.length ≤ 4294967296 by omega) (And.intro (show a < n by omega) (And.intro (show n ≤ L.length by omega) (show cj ≤ n * s by rw [hn, Nat.add_mul]; omega))))
                have g1 : (a : Int) ≤ n := by omega
                have g2 : (n : Int) ≤ c := by omega
                have g3 : ¬ c - a = 0 := by omega
                have g4 : ¬ c = a := by omega
                have g5 : ¬ c ≤ a := by omega
                have g6 : a ≤ n := by omega
                have g7 : n ≤ c := by omega
                have g8 : (0 : Int) ≤ a := by omega
                clear hR hRl hRat hP hPl a3 hfl hmj hcb hcj hpp heq hdr hle hbP hrun hXB hPn hown hB hj hbw hjl hp0 hnl hn
                go_wp2_with fail
                refine hbl.mono ?_
                rintro e w9 ⟨rfl, rfl⟩
                clear hbl
                go_wp2_with fail
                go_region_held3 (fun w' => w'.cell? ⟨w.heap.size, 0, none⟩ = some (.int .i64 cj) ∧ w'.cell? ⟨sb, 0, none⟩ = some (.slice (some ⟨b, o, none⟩) 1 cc)) (first | go_keep | with_reducible exact HS.out | with_reducible exact HS5.out | with_reducible exact HS6.out)
                  (first | (refine step_append_bytes (by rfl) _ _ (by rfl) w.heap.size _ O.length (O.map u8V) (by go_simp) HOWN5.out q5 XB n5 (by go_simp) HBS5.out HJ.out.1 HSW5.out ?_; intro p6 c6 w6 ho6 hg6 hv6; have hbl6 := Blk.grown HBLK5.out hg6 HU.out.ob; have hbe6 := HBEL5.out.trans (below_grown hg6 (row_blk HU.out.own) HSW5.out); have HS6 := Lib.hid (show w6.cell? ⟨w.heap.size, 0, none⟩ = some (.int .i64 cj) ∧ w6.cell? ⟨sb, 0, none⟩ = some (.slice (some ⟨b, o, none⟩) 1 cc) from ⟨hbl6.cell 0 rfl, (hbe6.cell (p := ⟨sb, 0, none⟩) l1).trans H1.out⟩); have HO6 := Lib.hid ho6; have HV6 := Lib.hid hv6; have HBL6 := Lib.hid hbl6; have HBE6 := Lib.hid hbe6; clear ho6 hg6 hv6 hbl6 hbe6) | (go_at_call 135; refine HRUN.out.mono ?_; rintro e w5 ⟨q5, n5, rfl, hbs5, hb5⟩; have hb5' := (below_drew2 w9).trans hb5; have hbel5 := HBW.out.trans (hb5'.mono HBW.out.size); have HOWN5 := Lib.hid (row_keep HOWN.out hb5'); have HBLK5 := Lib.hid (HB2.out.keep hb5' HB2.out.lt); have HS5 := Lib.hid (show w5.cell? ⟨w.heap.size, 0, none⟩ = some (.int .i64 cj) ∧ w5.cell? ⟨sb, 0, none⟩ = some (.slice (some ⟨b, o, none⟩) 1 cc) from ⟨HBLK5.out.cell 0 rfl, (hbel5.cell (p := ⟨sb, 0, none⟩) l1).trans H1.out⟩); have HBS5 := Lib.hid hbs5; have HSW5 := Lib.hid hbel5.size; have HBEL5 := Lib.hid hbel5; clear hbs5 hb5 hb5' hbel5))
                go_wp2_with fail
                have hj9 := HJ.out
                have hux : UxSt w w6 s L OUT n cj k (O ++ XB) (.slice p6 (O.length + XB.length) c6) := by
                  refine ⟨by rw [List.length_append, List.map_append]; exact HO6.out, fun e => ?_, HBL6.out, HBE6.out, by rw [List.append_assoc]; exact HEQ.out, hj9.2.2.2, by have := HU.out.fuel; omega, hj9.2.2.1⟩
                  rcases HV6.out with h | h
                  · exact HU.out.ob (h.symm.trans e)
                  · have := HBLK5.out.lt
                    rw [h] at e
                    injection e with e
                    omega
                exact ⟨⟨n, cj, k, O ++ XB, rfl, Lib.hid hux⟩, by simp [intOf]; omega⟩
            · have e3 : decide (n < L.length) = false := decide_eq_false (by omega)
              have hp0 : ¬ P.length = 0 := by omega
              have hpp : 1 ≤ P.length := by omega
              have e4 : decide (a < n) = true := decide_eq_true (by omega)
              have heq := HU.out.eq
              rw [hR, unexpandF_blank s k col R (by rw [hP]; exact hpp), hP, hcj] at heq
              have hdr : R.drop P.length = L.drop n := by rw [← hR, List.drop_drop, hn]
              rw [hdr] at heq
              have hle := congrArg List.length heq
              simp only [List.length_append] at hle
              have hbP : Bs wr (some ⟨g, q + a, none⟩) P := fun _ => ⟨g, q + a, rfl, fun i hi => by
                have h1 := takeWhile_getD Wi.blank R i (by rw [hP]; exact hi)
                rw [hP] at h1
                rw [h1.1, hRat i, Nat.add_assoc]
                exact (hbw.cell (p := ⟨g, q + (a + i), none⟩) hgl).trans (HG.out (a + i) (by omega))⟩
              have hrun := run1_any b o cc s hs1 hs2 hcc P hpp (by omega) (some ⟨g, q + a, none⟩) (c - a) col cj hfl.2 (by omega) wr.drew (hbP.below (below_drew2 wr) (Nat.le_refl _)) (by omega) a3
              obtain ⟨XB, hXB⟩ : ∃ XB, Wi.pieceOf s P col cj = XB := ⟨_, rfl⟩
              rw [hXB] at hrun heq hle
              have hPn : P.length = n - a := by omega
              rw [hPn] at hrun
              have hown := row_off HU.out.own HK.out HU.out.ob
              have hB := HB.out
              rw [List.take_length, hcj] at hB
              have b1 := hB.cell 0 (v := .int .i64 cj) rfl
              have HB2 := Lib.hid hB
              have HOWN := Lib.hid hown
              have HRUN := Lib.hid hrun
              have HEQ := Lib.hid heq
              have HBW := Lib.hid hbw
              have HS : Hid (wr.cell? ⟨w.heap.size, 0, none⟩ = some (.int .i64 cj) ∧ wr.cell? ⟨sb, 0, none⟩ = some (.slice (some ⟨b, o, none⟩) 1 cc)) := Lib.hid ⟨b1, a2⟩
              have HJ := Lib.hid (And.intro (show O.length + XB.length ≤ 4294967296 by omega) (And.intro (show a < n by omega) (And.intro (show n ≤ L.length by omega) (show cj ≤ n * s by rw [hn, Nat.add_mul]; omega))))
              have g1 : (a : Int) ≤ n := by omega
              have g2 : (n : Int) ≤ c := by omega
              have g3 : ¬ c - a = 0 := by omega
              have g4 : ¬ c = a := by omega
              have g5 : ¬ c ≤ a := by omega
              have g6 : a ≤ n := by omega
              have g7 : n ≤ c := by omega
              have g8 : (0 : Int) ≤ a := by omega
              clear hR hRl hRat hP hPl a3 hfl hmj hcb hcj hpp heq hdr hle hbP hrun hXB hPn hown hB hj hbw hjl hp0 hnl hn
              go_wp2_with fail
              go_region_held3 (fun w' => w'.cell? ⟨w.heap.size, 0, none⟩ = some (.int .i64 cj) ∧ w'.cell? ⟨sb, 0, none⟩ = some (.slice (some ⟨b, o, none⟩) 1 cc)) (first | go_keep | with_reducible exact HS.out | with_reducible exact HS5.out | with_reducible exact HS6.out)
                (first | (refine step_append_bytes (by rfl) _ _ (by rfl) w.heap.size _ O.length (O.map u8V) (by go_simp) HOWN5.out q5 XB n5 (by go_simp) HBS5.out HJ.out.1 HSW5.out ?_; intro p6 c6 w6 ho6 hg6 hv6; have hbl6 := Blk.grown HBLK5.out hg6 HU.out.ob; have hbe6 := HBEL5.out.trans (below_grown hg6 (row_blk HU.out.own) HSW5.out); have HS6 := Lib.hid (show w6.cell? ⟨w.heap.size, 0, none⟩ = some (.int .i64 cj) ∧ w6.cell? ⟨sb, 0, none⟩ = some (.slice (some ⟨b, o, none⟩) 1 cc) from ⟨hbl6.cell 0 rfl, (hbe6.cell (p := ⟨sb, 0, none⟩) l1).trans H1.out⟩); have HO6 := Lib.hid ho6; have HV6 := Lib.hid hv6; have HBL6 := Lib.hid hbl6; have HBE6 := Lib.hid hbe6; clear ho6 hg6 hv6 hbl6 hbe6) | (go_at_call 135; refine HRUN.out.mono ?_; rintro e w5 ⟨q5, n5, rfl, hbs5, hb5⟩; have hb5' := (below_drew2 wr).trans hb5; have hbel5 := HBW.out.trans (hb5'.mono HBW.out.size); have HOWN5 := Lib.hid (row_keep HOWN.out hb5'); have HBLK5 := Lib.hid (HB2.out.keep hb5' HB2.out.lt); have HS5 := Lib.hid (show w5.cell? ⟨w.heap.size, 0, none⟩ = some (.int .i64 cj) ∧ w5.cell? ⟨sb, 0, none⟩ = some (.slice (some ⟨b, o, none⟩) 1 cc) from ⟨HBLK5.out.cell 0 rfl, (hbel5.cell (p := ⟨sb, 0, none⟩) l1).trans H1.out⟩); have HBS5 := Lib.hid hbs5; have HSW5 := Lib.hid hbel5.size; have HBEL5 := Lib.hid hbel5; clear hbs5 hb5 hb5' hbel5))
              go_wp2_with fail
              have hj9 := HJ.out
              have hux : UxSt w w6 s L OUT n cj k (O ++ XB) (.slice p6 (O.length + XB.length) c6) := by
                refine ⟨by rw [List.length_append, List.map_append]; exact HO6.out, fun e => ?_, HBL6.out, HBE6.out, by rw [List.append_assoc]; exact HEQ.out, hj9.2.2.2, by have := HU.out.fuel; omega, hj9.2.2.1⟩
                rcases HV6.out with h | h
                · exact HU.out.ob (h.symm.trans e)
                · have := HBLK5.out.lt
                  rw [h] at e
                  injection e with e
                  omega
              exact ⟨⟨n, cj, k, O ++ XB, rfl, Lib.hid hux⟩, by simp [intOf]; omega⟩
      | false =>
        go_wp2_with fail
        go_loopw [8] (fun x8 wx => ∃ j n : Nat, j ≤ P.length ∧ x8 = .int .i64 (n : Int) ∧ Hid (n = a + j) ∧ Hid (Kept (fun i => i = w.heap.size) wo wx) ∧ Hid (Blk wx w.heap.size #[.int .i64 (((P.take j).foldl (Wi.tabCol s) col : Nat) : Int)] 237)) (fun x8 _ => L.length - (intOf x8).toNat)
        case atStart => exact ⟨0, a, Nat.zero_le _, rfl, Lib.hid rfl, Lib.hid (Kept.refl _ _), Lib.hid (by simpa using HU.out.blk)⟩
        case round =>
          clear b0
          obtain ⟨j, n, hj, rfl, HN, HK, HB⟩ := hrel
          have hbw := below_off HU.out.bel HK.out
          have hn := HN.out
          obtain ⟨hR, hRl, hRat, hP, hPl⟩ := HR.out
          have a1 : wr.cell? ⟨ab, 0, none⟩ = some (.bool true) := (hbw.cell (p := ⟨ab, 0, none⟩) l0).trans H0.out
          have a2 : wr.cell? ⟨sb, 0, none⟩ = some (.slice (some ⟨b, o, none⟩) 1 cc) := (hbw.cell (p := ⟨sb, 0, none⟩) l1).trans H1.out
          have a3 : wr.cell? ⟨b, o, none⟩ = some (.int .i64 s) := (hbw.cell (p := ⟨b, o, none⟩) l2).trans H2.out
          have hfl := foldl_tab_le s hs1 (P.take j) col
          rw [List.length_take, Nat.min_eq_left hj] at hfl
          have hmj : (a + j) * s ≤ L.length * s := Nat.mul_le_mul_right s (by omega)
          rw [Nat.add_mul] at hmj
          have hcb := HC.out
          obtain ⟨cj, hcj⟩ : ∃ cj, (P.take j).foldl (Wi.tabCol s) col = cj := ⟨_, rfl⟩
          rw [hcj] at hfl
          by_cases hjl : j < P.length
          · have hpj := takeWhile_getD Wi.blank R j (by rw [hP]; exact hjl)
            rw [hP] at hpj
            obtain ⟨ch, hch⟩ : ∃ ch, R.getD j 0 = ch := ⟨_, rfl⟩
            rw [hch] at hpj
            have hLn : L.getD n 0 = ch := by rw [hn, ← hRat j]; exact hch
            have hnl : n < L.length := by omega
            have e3 : decide ((n : Int) < (L.length : Int)) = true := decide_eq_true (by omega)
            have a0 : wr.cell? ⟨g, q + n, none⟩ = some (.int .u8 ch.toNat) := (hbw.cell (p := ⟨g, q + n, none⟩) hgl).trans (by rw [← hLn]; exact HG.out n hnl)
            have h8 : ch ≠ 8 := HM.out ch (by rw [← hLn, List.getD_eq_getElem?_getD, List.getElem?_eq_getElem hnl]; exact List.getElem_mem _)
            have hbl := blank_any ch wr
            rw [hpj.2] at hbl
            have hB := HB.out
            rw [hcj] at hB
            have htab := tab_any w.heap.size s cj hs1 (by omega) (by omega) ch h8 b o cc hcc wr.drew a3 ((Blk.drew hB).cell 0 rfl) ((Blk.drew hB).free 0)
            have hnx := take_foldl s P j hjl ch hpj.1 col
            rw [hcj] at hnx
            obtain ⟨w4, hw4⟩ : ∃ w4, wr.drew.setCell ⟨w.heap.size, 0, none⟩ (.int .i64 ((Wi.tabCol s cj ch : Nat) : Int)) = w4 := ⟨_, rfl⟩
            rw [hw4] at htab
            have hk4 : Kept (fun i => i = w.heap.size) wo w4 := by rw [← hw4]; exact (HK.out.drew).setCell (.inl rfl) 0 _
            have hb4 : Blk w4 w.heap.size #[.int .i64 (((P.take (j + 1)).foldl (Wi.tabCol s) col : Nat) : Int)] 237 := by rw [← hw4, ← hnx]; exact (Blk.drew hB).set 0 _
            have hbw4 := below_off HU.out.bel hk4
            have HS4 : Hid (w4.cell? ⟨g, q + n, none⟩ = some (.int .u8 ch.toNat) ∧ w4.cell? ⟨sb, 0, none⟩ = some (.slice (some ⟨b, o, none⟩) 1 cc)) := Lib.hid ⟨(hbw4.cell (p := ⟨g, q + n, none⟩) hgl).trans (by rw [← hLn]; exact HG.out n hnl), (hbw4.cell (p := ⟨sb, 0, none⟩) l1).trans H1.out⟩
            have HT := Lib.hid htab
            have HK4 := Lib.hid hk4
            have HB4 := Lib.hid hb4
            have HJ := Lib.hid (And.intro hjl hnl)
            have f1 : (n : Int) < L.length := by omega
            clear hbw hn hR hRl hRat hP hPl a3 hfl hmj hcb hcj hpj hch hLn h8 hB htab hnx hw4 hk4 hb4 hbw4 hjl hj
            go_wp2_with fail
            refine hbl.mono ?_
            rintro e w5 ⟨rfl, rfl⟩
            clear hbl
            go_wp2_with fail
            go_region_held3 (fun w' => w'.cell? ⟨g, q + n, none⟩ = some (.int .u8 ch.toNat) ∧ w'.cell? ⟨sb, 0, none⟩ = some (.slice (some ⟨b, o, none⟩) 1 cc)) (first | go_keep | with_reducible exact HS4.out)
              ((go_at_call 132; refine HT.out.mono ?_; rintro e w5 ⟨⟨v, rfl⟩, rfl⟩))
            go_wp2_with fail
            go_roundw
            case rel => exact ⟨j + 1, n + 1, HJ.out.1, by go_num, Lib.hid (by have := HN.out; omega), HK4, HB4⟩
            case measure => have := HJ.out; simp [intOf]; omega
          · obtain rfl : j = P.length := by omega
            rw [List.take_length] at hcj
            by_cases hnl : n < L.length
            · have hpe := takeWhile_end Wi.blank R (by rw [hP]; omega)
              rw [hP] at hpe
              obtain ⟨ch, hch⟩ : ∃ ch, R.getD P.length 0 = ch := ⟨_, rfl⟩
              rw [hch] at hpe
              have hLn : L.getD n 0 = ch := by rw [hn, ← hRat P.length]; exact hch
              have e3 : decide ((n : Int) < (L.length : Int)) = true := decide_eq_true (by omega)
              have a0 : wr.cell? ⟨g, q + n, none⟩ = some (.int .u8 ch.toNat) := (hbw.cell (p := ⟨g, q + n, none⟩) hgl).trans (by rw [← hLn]; exact HG.out n hnl)
              have hbl := blank_any ch wr
              rw [hpe] at hbl
              have f1 : (n : Int) < L.length := by omega
              by_cases hp0 : P.length = 0
              · have e4 : decide (a < n) = false := decide_eq_false (by omega)
                have hPn : P = [] := List.eq_nil_of_length_eq_zero hp0
                rw [hPn, List.foldl_nil] at hcj
                subst hcj
                rw [hp0] at hch
                have heq := HU.out.eq
                rw [hR, unexpandF_else s k col R (by omega) (by rw [hch]; exact hpe), hch] at heq
                have hdr : R.drop 1 = L.drop (a + 1) := by rw [← hR, List.drop_drop]
                rw [hdr] at heq
                have hle := congrArg List.length heq
                simp only [List.length_append, List.length_cons] at hle
                have hB := HB.out
                rw [hPn, List.take_nil, List.foldl_nil] at hB
                have h8 : ch ≠ 8 := HM.out ch (by rw [← hLn, List.getD_eq_getElem?_getD, List.getElem?_eq_getElem hnl]; exact List.getElem_mem _)
                have htab := tab_any w.heap.size s col hs1 (by omega) (by omega) ch h8 b o cc hcc wr.drew a3 ((Blk.drew hB).cell 0 rfl) ((Blk.drew hB).free 0)
                have h9 : ch ≠ 9 := fun e => by rw [e] at hpe; exact absurd hpe (by decide)
                have htc : Wi.tabCol s col ch = col + 1 := by unfold Wi.tabCol; rw [if_neg h9]
                rw [htc] at htab
                obtain ⟨w4, hw4⟩ : ∃ w4, wr.drew.setCell ⟨w.heap.size, 0, none⟩ (.int .i64 ((col + 1 : Nat) : Int)) = w4 := ⟨_, rfl⟩
                rw [hw4] at htab
                have hk4 : Kept (fun i => i = w.heap.size) wo w4 := by rw [← hw4]; exact (HK.out.drew).setCell (.inl rfl) 0 _
                have hb4 : Blk w4 w.heap.size #[.int .i64 ((col + 1 : Nat) : Int)] 237 := by rw [← hw4]; exact (Blk.drew hB).set 0 _
                have hbw4 := below_off HU.out.bel hk4
                have hLa : L.getD a 0 = ch := by rw [show a = n by omega]; exact hLn
                have a0' : wr.cell? ⟨g, q + a, none⟩ = some (.int .u8 ch.toNat) := (hbw.cell (p := ⟨g, q + a, none⟩) hgl).trans (by rw [← hLa]; exact HG.out a hlt)
                have HS : Hid (wr.cell? ⟨g, q + a, none⟩ = some (.int .u8 ch.toNat) ∧ wr.cell? ⟨sb, 0, none⟩ = some (.slice (some ⟨b, o, none⟩) 1 cc)) := Lib.hid ⟨a0', a2⟩
                have HS4 : Hid (w4.cell? ⟨g, q + a, none⟩ = some (.int .u8 ch.toNat) ∧ w4.cell? ⟨sb, 0, none⟩ = some (.slice (some ⟨b, o, none⟩) 1 cc)) := Lib.hid ⟨(hbw4.cell (p := ⟨g, q + a, none⟩) hgl).trans (by rw [← hLa]; exact HG.out a hlt), (hbw4.cell (p := ⟨sb, 0, none⟩) l1).trans H1.out⟩
                have hown4 := row_off HU.out.own hk4 HU.out.ob
                have hal : Below w4.heap.size w4 (w4.alloc (.cells #[.int .u8 ch.toNat] 5)) := (Below.refl _ _).alloc (Nat.le_refl _) _
                have HOWN := Lib.hid (row_keep hown4 hal)
                have HLIT := Lib.hid (bs_one w4 ch 5)
                have HAL := Lib.hid hal
                have HT := Lib.hid htab
                have HB4 := Lib.hid hb4
                have HBW4 := Lib.hid hbw4
                have HSW := Lib.hid (Nat.le_trans hbw4.size hal.size)
                have HEQ := Lib.hid heq
                have HJ := Lib.hid (And.intro (show O.length + ([ch] : Bts).length ≤ 4294967296 by simp only [List.length_singleton]; omega) (show col + 1 ≤ (a + 1) * s by rw [Nat.add_mul]; omega))
                have f2 : (a : Int) < L.length := by omega
                clear hR hRl hRat hP hPl a3 hfl hmj hcb heq hdr hle hB hj hbw hjl hp0 hnl hn hPn h8 htab h9 htc hw4 hk4 hb4 hbw4 hLa hLn hown4 hal hch
                go_wp2_with fail
                refine hbl.mono ?_
                rintro e w9 ⟨rfl, rfl⟩
                clear hbl
                go_wp2_with fail
                go_region_held3 (fun w' => w'.cell? ⟨g, q + a, none⟩ = some (.int .u8 ch.toNat) ∧ w'.cell? ⟨sb, 0, none⟩ = some (.slice (some ⟨b, o, none⟩) 1 cc)) (first | go_keep | with_reducible exact HS.out | with_reducible exact HS4.out)
                  ((go_at_call 132; refine HT.out.mono ?_; rintro e w5 ⟨⟨v, rfl⟩, rfl⟩))
                have a5 := HS4.out.1
                go_wp2_with (at_builtin; refine append_bytes rfl _ _ rfl w.heap.size _ O.length (O.map u8V) (by go_simp) HOWN.out (some ⟨w5.heap.size, 0, none⟩) [ch] 1 (by go_simp) HLIT.out HJ.out.1 HSW.out ?_; intro v1 u1 ho1 hg1 hv1; have HO1 := Lib.hid ho1; have HG1 := Lib.hid hg1; have HV1 := Lib.hid hv1; clear ho1 hg1 hv1 HOWN)
                have hux : UxSt w u1 s L OUT (a + 1) (col + 1) k (O ++ [ch]) v1 := by
                  have hblk : Blk (w5.alloc (.cells #[.int .u8 ch.toNat] 5)) w.heap.size #[.int .i64 ((col + 1 : Nat) : Int)] 237 := HB4.out.keep HAL.out HB4.out.lt
                  refine ⟨by rw [List.length_append, List.map_append]; exact HO1.out, fun e => ?_, hblk.grown HG1.out HU.out.ob, (HBW4.out.trans (HAL.out.mono HBW4.out.size)).trans (below_grown HG1.out (row_blk HU.out.own) HSW.out), by rw [List.append_assoc]; exact HEQ.out, HJ.out.2, by have := HU.out.fuel; omega, by omega⟩
                  rcases HV1.out with h | h
                  · exact HU.out.ob (h.symm.trans e)
                  · have := hblk.lt
                    rw [h] at e
                    injection e with e
                    omega
                exact ⟨⟨a + 1, col + 1, k, O ++ [ch], by go_num, Lib.hid hux⟩, by simp [intOf]; omega⟩
              · have hpp : 1 ≤ P.length := by omega
                have e4 : decide (a < n) = true := decide_eq_true (by omega)
                have heq := HU.out.eq
                rw [hR, unexpandF_blank s k col R (by rw [hP]; exact hpp), hP, hcj] at heq
                have hdr : R.drop P.length = L.drop n := by rw [← hR, List.drop_drop, hn]
                rw [hdr] at heq
                have hle := congrArg List.length heq
                simp only [List.length_append] at hle
                have hbP : Bs wr (some ⟨g, q + a, none⟩) P := fun _ => ⟨g, q + a, rfl, fun i hi => by
                  have h1 := takeWhile_getD Wi.blank R i (by rw [hP]; exact hi)
                  rw [hP] at h1
                  rw [h1.1, hRat i, Nat.add_assoc]
                  exact (hbw.cell (p := ⟨g, q + (a + i), none⟩) hgl).trans (HG.out (a + i) (by omega))⟩
                have hrun := run1_any b o cc s hs1 hs2 hcc P hpp (by omega) (some ⟨g, q + a, none⟩) (c - a) col cj hfl.2 (by omega) wr.drew (hbP.below (below_drew2 wr) (Nat.le_refl _)) (by omega) a3
                obtain ⟨XB, hXB⟩ : ∃ XB, Wi.pieceOf s P col cj = XB := ⟨_, rfl⟩
                rw [hXB] at hrun heq hle
                have hPn : P.length = n - a := by omega
                rw [hPn] at hrun
                have hown := row_off HU.out.own HK.out HU.out.ob
                have hB := HB.out
                rw [List.take_length, hcj] at hB
                have b1 := hB.cell 0 (v := .int .i64 cj) rfl
                have HB2 := Lib.hid hB
                have HOWN := Lib.hid hown
                have HRUN := Lib.hid hrun
                have HEQ := Lib.hid heq
                have HBW := Lib.hid hbw
                have HS : Hid (wr.cell? ⟨w.heap.size, 0, none⟩ = some (.int .i64 cj) ∧ wr.cell? ⟨sb, 0, none⟩ = some (.slice (some ⟨b, o, none⟩) 1 cc)) := Lib.hid ⟨b1, a2⟩
                have HJ := Lib.hid (And.intro (show O.length + XB.length ≤ 4294967296 by omega) (And.intro (show a < n by omega) (And.intro (show n ≤ L.length by omega) (show cj ≤ n * s by rw [hn, Nat.add_mul]; omega))))
                have g1 : (a : Int) ≤ n := by omega
                have g2 : (n : Int) ≤ c := by omega
                have g3 : ¬ c - a = 0 := by omega
                have g4 : ¬ c = a := by omega
                have g5 : ¬ c ≤ a := by omega
                have g6 : a ≤ n := by omega
                have g7 : n ≤ c := by omega
                have g8 : (0 : Int) ≤ a := by omega
                clear hR hRl hRat hP hPl a3 hfl hmj hcb hcj hpp heq hdr hle hbP hrun hXB hPn hown hB hj hbw hjl hp0 hnl hn
                go_wp2_with fail
                refine hbl.mono ?_
                rintro e w9 ⟨rfl, rfl⟩
                clear hbl
                go_wp2_with fail
                go_region_held3 (fun w' => w'.cell? ⟨w.heap.size, 0, none⟩ = some (.int .i64 cj) ∧ w'.cell? ⟨sb, 0, none⟩ = some (.slice (some ⟨b, o, none⟩) 1 cc)) (first | go_keep | with_reducible exact HS.out | with_reducible exact HS5.out | with_reducible exact HS6.out)
                  (first | (refine step_append_bytes (by rfl) _ _ (by rfl) w.heap.size _ O.length (O.map u8V) (by go_simp) HOWN5.out q5 XB n5 (by go_simp) HBS5.out HJ.out.1 HSW5.out ?_; intro p6 c6 w6 ho6 hg6 hv6; have hbl6 := Blk.grown HBLK5.out hg6 HU.out.ob; have hbe6 := HBEL5.out.trans (below_grown hg6 (row_blk HU.out.own) HSW5.out); have HS6 := Lib.hid (show w6.cell? ⟨w.heap.size, 0, none⟩ = some (.int .i64 cj) ∧ w6.cell? ⟨sb, 0, none⟩ = some (.slice (some ⟨b, o, none⟩) 1 cc) from ⟨hbl6.cell 0 rfl, (hbe6.cell (p := ⟨sb, 0, none⟩) l1).trans H1.out⟩); have HO6 := Lib.hid ho6; have HV6 := Lib.hid hv6; have HBL6 := Lib.hid hbl6; have HBE6 := Lib.hid hbe6; clear ho6 hg6 hv6 hbl6 hbe6) | (go_at_call 135; refine HRUN.out.mono ?_; rintro e w5 ⟨q5, n5, rfl, hbs5, hb5⟩; have hb5' := (below_drew2 w9).trans hb5; have hbel5 := HBW.out.trans (hb5'.mono HBW.out.size); have HOWN5 := Lib.hid (row_keep HOWN.out hb5'); have HBLK5 := Lib.hid (HB2.out.keep hb5' HB2.out.lt); have HS5 := Lib.hid (show w5.cell? ⟨w.heap.size, 0, none⟩ = some (.int .i64 cj) ∧ w5.cell? ⟨sb, 0, none⟩ = some (.slice (some ⟨b, o, none⟩) 1 cc) from ⟨HBLK5.out.cell 0 rfl, (hbel5.cell (p := ⟨sb, 0, none⟩) l1).trans H1.out⟩); have HBS5 := Lib.hid hbs5; have HSW5 := Lib.hid hbel5.size; have HBEL5 := Lib.hid hbel5; clear hbs5 hb5 hb5' hbel5))
                go_wp2_with fail
                have hj9 := HJ.out
                have hux : UxSt w w6 s L OUT n cj k (O ++ XB) (.slice p6 (O.length + XB.length) c6) := by
                  refine ⟨by rw [List.length_append, List.map_append]; exact HO6.out, fun e => ?_, HBL6.out, HBE6.out, by rw [List.append_assoc]; exact HEQ.out, hj9.2.2.2, by have := HU.out.fuel; omega, hj9.2.2.1⟩
                  rcases HV6.out with h | h
                  · exact HU.out.ob (h.symm.trans e)
                  · have := HBLK5.out.lt
                    rw [h] at e
                    injection e with e
                    omega
                exact ⟨⟨n, cj, k, O ++ XB, rfl, Lib.hid hux⟩, by simp [intOf]; omega⟩
            · have e3 : decide (n < L.length) = false := decide_eq_false (by omega)
              have hp0 : ¬ P.length = 0 := by omega
              have hpp : 1 ≤ P.length := by omega
              have e4 : decide (a < n) = true := decide_eq_true (by omega)
              have heq := HU.out.eq
              rw [hR, unexpandF_blank s k col R (by rw [hP]; exact hpp), hP, hcj] at heq
              have hdr : R.drop P.length = L.drop n := by rw [← hR, List.drop_drop, hn]
              rw [hdr] at heq
              have hle := congrArg List.length heq
              simp only [List.length_append] at hle
              have hbP : Bs wr (some ⟨g, q + a, none⟩) P := fun _ => ⟨g, q + a, rfl, fun i hi => by
                have h1 := takeWhile_getD Wi.blank R i (by rw [hP]; exact hi)
                rw [hP] at h1
                rw [h1.1, hRat i, Nat.add_assoc]
                exact (hbw.cell (p := ⟨g, q + (a + i), none⟩) hgl).trans (HG.out (a + i) (by omega))⟩
              have hrun := run1_any b o cc s hs1 hs2 hcc P hpp (by omega) (some ⟨g, q + a, none⟩) (c - a) col cj hfl.2 (by omega) wr.drew (hbP.below (below_drew2 wr) (Nat.le_refl _)) (by omega) a3
              obtain ⟨XB, hXB⟩ : ∃ XB, Wi.pieceOf s P col cj = XB := ⟨_, rfl⟩
              rw [hXB] at hrun heq hle
              have hPn : P.length = n - a := by omega
              rw [hPn] at hrun
              have hown := row_off HU.out.own HK.out HU.out.ob
              have hB := HB.out
              rw [List.take_length, hcj] at hB
              have b1 := hB.cell 0 (v := .int .i64 cj) rfl
              have HB2 := Lib.hid hB
              have HOWN := Lib.hid hown
              have HRUN := Lib.hid hrun
              have HEQ := Lib.hid heq
              have HBW := Lib.hid hbw
              have HS : Hid (wr.cell? ⟨w.heap.size, 0, none⟩ = some (.int .i64 cj) ∧ wr.cell? ⟨sb, 0, none⟩ = some (.slice (some ⟨b, o, none⟩) 1 cc)) := Lib.hid ⟨b1, a2⟩
              have HJ := Lib.hid (And.intro (show O.length + XB.length ≤ 4294967296 by omega) (And.intro (show a < n by omega) (And.intro (show n ≤ L.length by omega) (show cj ≤ n * s by rw [hn, Nat.add_mul]; omega))))
              have g1 : (a : Int) ≤ n := by omega
              have g2 : (n : Int) ≤ c := by omega
              have g3 : ¬ c - a = 0 := by omega
              have g4 : ¬ c = a := by omega
              have g5 : ¬ c ≤ a := by omega
              have g6 : a ≤ n := by omega
              have g7 : n ≤ c := by omega
              have g8 : (0 : Int) ≤ a := by omega
              clear hR hRl hRat hP hPl a3 hfl hmj hcb hcj hpp heq hdr hle hbP hrun hXB hPn hown hB hj hbw hjl hp0 hnl hn
              go_wp2_with fail
              go_region_held3 (fun w' => w'.cell? ⟨w.heap.size, 0, none⟩ = some (.int .i64 cj) ∧ w'.cell? ⟨sb, 0, none⟩ = some (.slice (some ⟨b, o, none⟩) 1 cc)) (first | go_keep | with_reducible exact HS.out | with_reducible exact HS5.out | with_reducible exact HS6.out)
                (first | (refine step_append_bytes (by rfl) _ _ (by rfl) w.heap.size _ O.length (O.map u8V) (by go_simp) HOWN5.out q5 XB n5 (by go_simp) HBS5.out HJ.out.1 HSW5.out ?_; intro p6 c6 w6 ho6 hg6 hv6; have hbl6 := Blk.grown HBLK5.out hg6 HU.out.ob; have hbe6 := HBEL5.out.trans (below_grown hg6 (row_blk HU.out.own) HSW5.out); have HS6 := Lib.hid (show w6.cell? ⟨w.heap.size, 0, none⟩ = some (.int .i64 cj) ∧ w6.cell? ⟨sb, 0, none⟩ = some (.slice (some ⟨b, o, none⟩) 1 cc) from ⟨hbl6.cell 0 rfl, (hbe6.cell (p := ⟨sb, 0, none⟩) l1).trans H1.out⟩); have HO6 := Lib.hid ho6; have HV6 := Lib.hid hv6; have HBL6 := Lib.hid hbl6; have HBE6 := Lib.hid hbe6; clear ho6 hg6 hv6 hbl6 hbe6) | (go_at_call 135; refine HRUN.out.mono ?_; rintro e w5 ⟨q5, n5, rfl, hbs5, hb5⟩; have hb5' := (below_drew2 wr).trans hb5; have hbel5 := HBW.out.trans (hb5'.mono HBW.out.size); have HOWN5 := Lib.hid (row_keep HOWN.out hb5'); have HBLK5 := Lib.hid (HB2.out.keep hb5' HB2.out.lt); have HS5 := Lib.hid (show w5.cell? ⟨w.heap.size, 0, none⟩ = some (.int .i64 cj) ∧ w5.cell? ⟨sb, 0, none⟩ = some (.slice (some ⟨b, o, none⟩) 1 cc) from ⟨HBLK5.out.cell 0 rfl, (hbel5.cell (p := ⟨sb, 0, none⟩) l1).trans H1.out⟩); have HBS5 := Lib.hid hbs5; have HSW5 := Lib.hid hbel5.size; have HBEL5 := Lib.hid hbel5; clear hbs5 hb5 hb5' hbel5))
              go_wp2_with fail
              have hj9 := HJ.out
              have hux : UxSt w w6 s L OUT n cj k (O ++ XB) (.slice p6 (O.length + XB.length) c6) := by
                refine ⟨by rw [List.length_append, List.map_append]; exact HO6.out, fun e => ?_, HBL6.out, HBE6.out, by rw [List.append_assoc]; exact HEQ.out, hj9.2.2.2, by have := HU.out.fuel; omega, hj9.2.2.1⟩
                rcases HV6.out with h | h
                · exact HU.out.ob (h.symm.trans e)
                · have := HBLK5.out.lt
                  rw [h] at e
                  injection e with e
                  omega
              exact ⟨⟨n, cj, k, O ++ XB, rfl, Lib.hid hux⟩, by simp [intOf]; omega⟩
    · have h1 : a = L.length := by have := HU.out.len; omega
      subst h1
      have e1 : decide ((L.length : Int) < (L.length : Int)) = false := by simp
      go_wp2_with fail
      go_ret
      have h1 := HU.out.eq
      have h2 : Wi.unexpandF s k col (L.drop L.length) = [] := by rw [List.drop_length]; cases k <;> rfl
      rw [h2, List.append_nil] at h1
      subst h1
      exact ⟨_, rfl, row_sle HU.out.own rfl, HU.out.bel⟩

theorem SlE.cap {w : World} {N : Nat → Prop} {v : Value} {xs : Bts} (h : SlE w N v xs) : ∀ p n c, v = .slice p n c → n ≤ c := by
  intro p n c e
  rcases h with ⟨-, p', c', e'⟩ | ⟨-, h⟩
  · rw [e'] at e; injection e with _ e _; omega
  · obtain ⟨p', c', e', -, hc⟩ := h.bs
    rw [e'] at e; injection e with _ e e2; omega

theorem unexpand_filt {B : Nat} (ab sb b cc s : Nat) (hs1 : 1 ≤ s) (hs2 : s ≤ 255) (hcc : 1 ≤ cc) :
    Filt B 134 #[] #[.pointer (some ⟨ab, 0, none⟩), .pointer (some ⟨sb, 0, none⟩)] (fun j => j = ab ∨ j = sb ∨ j = b) (Wi.still (Wi.unexpand s)) (fun _ W => Blk W ab #[.bool true] 4 ∧ StopsSt sb b cc s W) (fun c => c ≠ 8) where
  keep := fun _ W W' S h hk hS _ => ⟨h.1.kept hk fun e => hS _ e (.inl rfl), h.2.kept hk (fun e => hS _ e (.inr (.inl rfl))) (fun e => hS _ e (.inr (.inr rfl)))⟩
  lt := fun _ W h j hj => by
    rcases hj with rfl | rfl | rfl
    · exact h.1.lt
    · exact h.2.blk.lt
    · exact h.2.lt
  noByte := fun _ W h j hj => by
    rcases hj with rfl | rfl | rfl
    · exact h.1.noByte1 (by intro n e; cases e)
    · exact h.2.blk.noByte1 (by intro n e; cases e)
    · exact h.2.no
  call := fun _ W lv L h hs hok hl ho => (unexpander1_any ab sb b 0 cc s hs1 hs2 hcc L hl ho hok lv _ W hs (h.1.cell 0 rfl) (h.2.blk.cell 0 rfl) h.2.one hs.cap).mono fun e w' ⟨v, he, hs', hb⟩ =>
    ⟨v, he, hs', ⟨h.1.keep hb h.1.lt, h.2.below hb⟩, Kept.of_below hb⟩

end Go.Proofs.YtbpcfjoebfbjmaaGreatDoor
