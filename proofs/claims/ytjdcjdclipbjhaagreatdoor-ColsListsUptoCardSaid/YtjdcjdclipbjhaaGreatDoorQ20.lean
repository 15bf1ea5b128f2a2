/-
  Texts of this seat put together: C14, C16, C15, C17.
-/
import Derived.Test.YtjdcjdclipbjhaaGreatDoorQ19
import Derived.Test.YtjdcjdclipbjhaaGreatDoorQ18
import Derived.Lib.AppendStr

/-
  The walk of paste's row: all lines of one feed in a row. Conditions: one sign; lines that fit, none empty.
-/
namespace Go.Proofs.YtjdcjdclipbjhaaGreatDoor
open Go.RowKit Go.Shelf Go.Maps

/-- What a row tells. -/
def rowF (s : Bts) : Nat → Bool → Bts → Bts
  | 0, _, _ => [10]
  | k + 1, first, T => if T = [] then [10] else (if first then [] else s) ++ (Wi.lineOf T).1 ++ rowF s k false (Wi.lineOf T).2.2

theorem cnt_step {a b c n : Nat} (h1 : a < b) (h2 : n + b ≤ c) : n + 1 + a ≤ c := by omega
theorem meas_step {n b c : Nat} (h : n + b ≤ c) : c - n < c + 1 - n := by omega

/-- Where a row stands. -/
structure RowSt (w wr : World) (F : Fx) (M : Nat → Prop) (s : Bts) (fb rd : Nat) (T0 : Bts) (k n : Nat) (M1 : Nat → Prop) (T out1 OUT : Bts) : Prop where
  f : FdSt wr F M1 fb rd T out1
  eq : out1 ++ rowF s k (n == 0) T = OUT
  fuel : T.length ≤ k
  all : allL (fun l => l ≠ []) k T
  mv : MvF M M1 fb rd w wr
  cnt : n + T.length ≤ T0.length
  big : OUT.length ≤ 4294967296

set_option maxRecDepth 100000 in
set_option maxHeartbeats 8000000 in
theorem row_any (F : Fx) (M : Nat → Prop) (s : Bts) (hs : s.length ≤ 1000) (lb lo lc : Nat) (fb rd : Nat) (T out : Bts) (hT : T.length ≤ 1000000) (hL : T.length ≤ F.line) (hall : allL (fun l => l ≠ []) T.length T) (hbig : (out ++ rowF s T.length true T).length ≤ 4294967296) (w : World) (h : FdSt w F M fb rd T out) (hc : w.cell? ⟨lb, lo, none⟩ = some (.string ⟨s.toArray⟩)) (hlb : ¬ M lb ∧ lb ≠ fb ∧ lb ≠ rd) :
    Calls Tryz.prog 106 #[.pointer (some ⟨F.p, 0, none⟩), .pointer (some ⟨fb, 0, none⟩), .slice (some ⟨lb, lo, none⟩) 1 lc] w fun e w' => e = .returned (.bool true) ∧ ∃ inp' M', PrAt w' F M' inp' (out ++ rowF s T.length true T) [] ∧ FdSt w' F M' fb rd [] (out ++ rowF s T.length true T) ∧ MvF M M' fb rd w w' := by
  have hst0 : RowSt w w F M s fb rd T T.length 0 M T out (out ++ rowF s T.length true T) := ⟨h, rfl, Nat.le_refl _, hall, MvF.refl _ _ _ _, by omega, hbig⟩
  have HS0 := Lib.hid hst0
  have HC := Lib.hid hc
  have hlw : lb < w.heap.size := World.block_lt_of_cell? _ _ hc
  generalize hOUT : out ++ rowF s T.length true T = OUT at *
  have HML := Lib.hid (show ∀ j, M j → j < w.heap.size by
    obtain ⟨inp, hp⟩ := h.pr
    exact hp.lt)
  have HOW := Lib.hid h.own
  clear hst0 h hc hall hOUT
  go_enter Tryz.func106, Tryz.ntmps106
  go_wp2_with fail
  go_loopw [7, 8, 9] (fun x7 _ _ wr => ∃ k n M1 T1 out1, x7 = .int .i64 (n : Nat) ∧ Hid (RowSt w wr F M s fb rd T k n M1 T1 out1 OUT)) (fun x7 _ _ _ => T.length + 1 - (intOf x7).toNat)
  case atStart => exact ⟨_, 0, M, T, out, rfl, HS0⟩
  case round =>
    clear HS0
    obtain ⟨k, n, M1, T1, out1, rfl, HS1⟩ := hrel
    have hcnt := HS1.out.cnt
    have hnx := next_any F M1 fb rd T1 out1 (by omega) (by omega) wr HS1.out.f
    go_wp2_with fail
    refine hnx.mono ?_
    rintro e w2 ⟨v, rfl, ho2, hf2, hm2, -⟩
    obtain ⟨pv, cv, rfl⟩ := own_shape ho2
    have hmv2 := HS1.out.mv.trans hm2
    have HF2 := Lib.hid hf2
    have HO2 := Lib.hid ho2
    have HMV2 := Lib.hid hmv2
    have hsz2 := hm2.1.size
    clear hnx ho2 hf2 hmv2 hm2
    by_cases hne : T1 = []
    · subst hne
      have heq := HS1.out.eq
      have hO : out1 ++ [10] = OUT := by
        rw [← heq]
        cases k <;> simp [rowF]
      have HO := Lib.hid hO
      clear heq hO
      rw [show Wi.lineOf ([] : Bts) = ([], false, []) from rfl] at HF2 HO2 ⊢
      rw [show (![].isEmpty : Bool) = false from rfl]
      dsimp only at HF2 HO2 ⊢
      have c3 := HF2.out.err
      obtain ⟨inp, hp2, hpass⟩ := HF2.out.pass
      have hcv := Joins.run_convert_bytes_const_at (P := Tryz.prog) w2 33 5 #[.int .u8 10] 1 1 w2.heap.size rfl Tryz.underlying33 Tryz.underlying5
      obtain ⟨w3, hw3⟩ : ∃ w3, w2.alloc (.cells #[.int .u8 10] 5 (1, 2)) = w3 := ⟨_, rfl⟩
      have hb3 : Below w2.heap.size w2 w3 := by rw [← hw3]; exact (Below.refl _ _).alloc (Nat.le_refl _) _
      have hbs3 : Bs w3 (some ⟨w2.heap.size, 0, none⟩) [10] := bs_lit (l := [10]) (t := 5) (f := (1, 2)) (by rw [← hw3]; exact heap_alloc_new w2 _)
      have hs3 : Sl w3 (fun g => ¬ M1 g) (.slice (some ⟨w2.heap.size, 0, none⟩) 1 1) [10] := .inr ⟨w2.heap.size, 0, 1, rfl, Nat.le_refl _, by rw [← hw3]; simp, fun hm => by have := hp2.lt _ hm; omega, fun i hi => hbs3.at i hi⟩
      have hlo : (out1 ++ [10]).length ≤ 4294967296 := by rw [HO.out]; exact hbig
      have hsy := saysC_any F M1 inp out1 [] [10] _ w3 (hp2.below hb3) hs3 (by simpa using hlo)
      rw [HO.out] at hsy
      have HPASS := Lib.hid hpass
      have HB3 := Lib.hid hb3
      have HW3 := Lib.hid hw3
      clear hp2 hpass hb3 hbs3 hs3 hlo hw3
      go_wp2_with fail
      rw [HW3.out]
      refine hsy.mono ?_
      rintro e w4 ⟨rfl, M4, hp4, hm4⟩
      have hmv4 : Mv M1 M4 w2 w4 := (Mv.below HB3.out).trans hm4
      have HF4 := Lib.hid (HPASS.out w4 M4 OUT hp4 hmv4)
      have HM4 := Lib.hid (HMV2.out.trans (hmv4.fd fb rd))
      have HP4 := Lib.hid hp4
      clear hsy hp4 hm4 hmv4 c3 hcv
      go_wp2_with fail
      go_ret
      exact ⟨rfl, inp, M4, HP4.out, HF4.out, HM4.out⟩
    · have hie : (!T1.isEmpty) = true := by
        cases T1 with
        | nil => exact absurd rfl hne
        | cons _ _ => rfl
      rw [hie]
      have hrl := Wi.lineOf_rest T1 hne
      have hll := Wi.lineOf_len T1
      have hfu := HS1.out.fuel
      have heq := HS1.out.eq
      have hal := HS1.out.all
      obtain ⟨k', rfl⟩ : ∃ k', k = k' + 1 := ⟨k - 1, by
        have : 0 < T1.length := List.length_pos_iff.2 hne
        omega⟩
      rw [rowF, if_neg hne] at heq
      obtain ⟨hP, hal2⟩ := hal.resolve_left hne
      obtain ⟨LT, fd, rr, hLTR⟩ : ∃ LT fd rr, Wi.lineOf T1 = (LT, fd, rr) := ⟨_, _, _, rfl⟩
      rw [hLTR] at hrl hll heq hal2 HF2 HO2 hP ⊢
      dsimp only at hrl hll heq hal2 HF2 HO2 hP ⊢
      have HEQ := Lib.hid heq
      have HAL := Lib.hid hal2
      have hP0 : 0 < LT.length := List.length_pos_iff.2 hP
      have HLS := Lib.hid (And.intro hrl (And.intro hll (And.intro hfu hcnt)))
      clear heq hal hal2 hie hLTR hP hrl hll hfu
      obtain ⟨X, hX⟩ : ∃ X, (if (n == 0) = true then [] else s) ++ LT = X := ⟨_, rfl⟩
      have HX := Lib.hid hX
      clear hX
      go_upto_if 19 with fail
      go_cut [8, 19, 20, 21, 22, 23, 24, 25, 26, 27, 28, 29, 30] (fun x8 _ _ _ _ _ _ _ _ _ _ _ _ wx => Hid (Sl wx (fun g => wr.heap.size ≤ g) x8 X) ∧ Hid (Below w2.heap.size w2 wx))
      case first =>
        by_cases hn : n = 0
        · subst hn
          have hXe : LT = X := by rw [← HX.out]; rfl
          subst hXe
          go_wp2_with fail
          go_meet
          exact ⟨Lib.hid ((Sl.own HO2.out).mono fun g _ hg => hg.1), Lib.hid (Below.refl _ _)⟩
        · have e1 : decide ((0 : Int) < n) = true := by simp; omega
          have hXe : s ++ LT = X := by
            have := HX.out
            rwa [if_neg (by simp; omega)] at this
          have hcl : w2.cell? ⟨lb, lo, none⟩ = some (.string ⟨s.toArray⟩) := by
            have hb := HMV2.out.1.block lb hlw (fun e => by
              rcases e with e | e | e
              · exact hlb.1 e
              · exact hlb.2.2 e
              · exact hlb.2.1 e)
            exact (World.cell?_of_block hb).trans HC.out
          obtain ⟨cc, w3, hcv, hb3, hca, hlt3⟩ := conv_at s w2
          have q1 : IntKind.i64.wrap ((n : Int) - 1) = (n : Int) - 1 := by rw [IntKind.wrap_i64]; omega
          have q2 : wrap64 ((n : Int) - 1) = (n : Int) - 1 := by rw [wrap64]; omega
          have q3 : ((n : Int) - 1).tmod 1 = 0 := Int.tmod_one _
          have HCA := Lib.hid hca
          have HB3 := Lib.hid hb3
          have HBS3 := Lib.hid (show Bs w3 pv LT by
            obtain ⟨p', c', e', hb'⟩ := bs_of_own (row_keep HO2.out hb3)
            injection e' with e1 _ _
            rw [e1]; exact hb')
          have hlen : s.length + LT.length ≤ 4294967296 := by have := HLS.out; omega
          clear hb3 hca
          go_wp2_with (at_builtin; refine append_conv rfl _ _ rfl w2.heap.size cc s (by go_simp) HCA.out pv LT cv (by go_simp) HBS3.out hP0 hlen ?_; intro g5 c5 w5 hs5 hg5)
          go_meet
          rw [← hXe]
          exact ⟨Lib.hid (hs5.mono fun g _ hg => by rcases hg with e | e <;> omega), Lib.hid (HB3.out.grown hg5 (by omega) fun j e => by rw [← Option.some.inj e]; exact Nat.le_refl _)⟩
      case rest =>
        obtain ⟨HSL, HBX⟩ := hcut
        obtain ⟨w5, hw5⟩ : ∃ w5, w5 = wc := ⟨_, rfl⟩
        subst hw5
        obtain ⟨px, cx, rfl, -, -⟩ := id HSL.out.bs
        obtain ⟨inp, hp2, hpass⟩ := HF2.out.pass
        have hsz5 := HBX.out.size
        have hs5 : Sl w5 (fun g => ¬ M1 g) (.slice px X.length cx) X := HSL.out.mono fun g _ hg hm => by
          have hp1 := HS1.out.f.pr
          obtain ⟨i1, hp1⟩ := hp1
          have h1 := hp1.lt g hm
          have h2 : wr.heap.size ≤ g := hg
          omega
        have hlo : out1.length + X.length ≤ 4294967296 := by
          have h1 := congrArg List.length HEQ.out
          rw [HX.out] at h1
          simp only [List.length_append] at h1
          omega
        have hsy := saysC_any F M1 inp out1 [] X _ w5 (hp2.below HBX.out) hs5 hlo
        have HPASS := Lib.hid hpass
        clear hp2 hpass hs5 hlo
        have q1 : IntKind.i64.wrap ((n : Int) + 1) = ((n + 1 : Nat) : Int) := by rw [IntKind.wrap_i64]; omega
        have q2 : wrap64 ((n : Int) + 1) = ((n + 1 : Nat) : Int) := by rw [wrap64]; omega
        go_wp2_with fail
        refine hsy.mono ?_
        rintro e w6 ⟨rfl, M6, hp6, hm6⟩
        have hmv6 : Mv M1 M6 w2 w6 := (Mv.below HBX.out).trans hm6
        have hst : RowSt w w6 F M s fb rd T k' (n + 1) M6 rr (out1 ++ X) OUT := by
          have hls := HLS.out
          refine ⟨HPASS.out w6 M6 _ hp6 hmv6, ?_, Nat.le_of_lt_succ (Nat.lt_of_lt_of_le hls.1 hls.2.2.1), HAL.out, HMV2.out.trans (hmv6.fd fb rd), cnt_step hls.1 hls.2.2.2, hbig⟩
          rw [show ((n + 1) == 0) = false from rfl, List.append_assoc, ← HX.out]
          exact HEQ.out
        have HST := Lib.hid hst
        clear hsy hp6 hm6 hmv6 hst
        go_wp2_with fail
        go_roundw
        case rel => exact ⟨k', n + 1, M6, rr, _, rfl, HST⟩
        case measure =>
          simp [intOf]
          exact meas_step HLS.out.2.2.2

end Go.Proofs.YtjdcjdclipbjhaaGreatDoor

/-
  append of a string's bytes onto a row of one's own: where the row lies then. Condition: the string is not empty.
-/
namespace Go.Proofs.YtjdcjdclipbjhaaGreatDoor
open Go.RowKit Go.Shelf Go.Maps

theorem app_str_block (w : World) (base : Nat) (v : Value) (n : Nat) (xs : List Value) (hown : w.ownsRow base 5 1 v n xs) (s : ByteArray) (h0 : 0 < s.size) (h63 : n + s.size ≤ 4294967296) (ty : TypeId) (v' : Value) (w' : World)
    (hr : (Builtin.append_ #[33, 9] ty #[v, .string s]).run Tryz.prog w = .ok v' w') : v'.ownBlock = v.ownBlock ∨ v'.ownBlock = some w.heap.size := by
  obtain ⟨i0, hi, hz0, hz1, hz2⟩ := info_parts info_byte
  rcases hown.2 with ⟨rfl, rfl⟩ | ⟨g, cap, cur, rfl, hbg, hg, hnc, hcm, hcs, htake⟩
  · have h := run_append_nil_string (P := Tryz.prog) w 33 9 ty 5 i0 (.int .u8 0) Tryz.underlying33 Tryz.underlying9 hi hz0 s h0 (by omega) (by rw [hz2]; omega)
    rw [h] at hr
    injection hr with e1 _
    subst e1
    exact .inr rfl
  · by_cases hroom : n + s.size ≤ cap
    · have h := Lib.run_append_room_string (P := Tryz.prog) w 33 9 ty 5 i0 Tryz.underlying33 Tryz.underlying9 hi hz1 g n cap cur hg s hroom (by omega)
      rw [h] at hr
      injection hr with e1 _
      subst e1
      exact .inl rfl
    · have hxl : xs.length = n := by simpa using hown.1
      have h := Lib.run_append_grow_string (P := Tryz.prog) w 33 9 ty 5 i0 (.int .u8 0) Tryz.underlying33 Tryz.underlying9 hi hz0 ⟨g, 0, none⟩ n cap xs (by rw [hz1]; omega) (hown.cells (g := g) rfl) s (by omega) (by omega) (by rw [hz2]; exact growslice_fits (by omega) (by omega))
      rw [h] at hr
      injection hr with e1 _
      subst e1
      exact .inr rfl

theorem append_str {ops : Array Oper} {rest : List Oper} {o : Oper} {a : Act} {w : World} {Q : Exit → Act → World → Prop} (hgd : o.guard = none) (sl x : Operand)
    (ho : o.op = .call { callee := .builtin .append, args := #[sl, x], argTypes := #[33, 9] })
    (base : Nat) (v : Value) (xs : Bts) (hs : a.eval sl = v) (hown : w.ownsRow base 5 1 v xs.length (xs.map u8V)) (s : Bts) (hx : a.eval x = .string ⟨s.toArray⟩) (h0 : 0 < s.length)
    (h63 : xs.length + s.length ≤ 4294967296) (hbase : base ≤ w.heap.size)
    (h : ∀ v' w', w'.ownsRow base 5 1 v' (xs ++ s).length ((xs ++ s).map u8V) → w.grownBy w' v.ownBlock → (v'.ownBlock = v.ownBlock ∨ v'.ownBlock = some w.heap.size) → wpList Tryz.prog ops Q rest (a.put o.dst v') w') : wpList Tryz.prog ops Q (o :: rest) a w := by
  obtain ⟨i0, hi, hz0, hz1, hz2⟩ := info_parts info_byte
  have hsz : (⟨s.toArray⟩ : ByteArray).size = s.length := by simp [ByteArray.size]
  refine wpList_plain hgd fun K hK => ?_
  obtain ⟨v', w', hr, h2, h3, -⟩ := Lib.run_append_own_string (P := Tryz.prog) w base 33 9 o.type 5 i0 Tryz.underlying33 Tryz.underlying9 hi hz0 hz1 hz2 v xs.length (xs.map u8V) hown ⟨s.toArray⟩ (by rw [hsz]; unfold maxLen; omega) (by rw [hsz]; omega) hbase
  have hb := app_str_block w base v xs.length (xs.map u8V) hown ⟨s.toArray⟩ (by rw [hsz]; exact h0) (by rw [hsz]; exact h63) o.type v' w' hr
  unfold Oper.wp execOp
  simp only [ho, resolve, invoke, builtin, Sem.run_bind, Sem.run_pure, Result.andThen_ok, List.map_toArray, List.map_cons, List.map_nil, hs, hx, hr]
  refine hK _ _ (h v' w' ?_ h3 hb)
  rw [hsz] at h2
  rw [List.length_append, List.map_append]
  exact h2

end Go.Proofs.YtjdcjdclipbjhaaGreatDoor

/-
  The walk of paste's rounds over two feeds that are one. Conditions: one sign; lines that fit.
-/
namespace Go.Proofs.YtjdcjdclipbjhaaGreatDoor
open Go.RowKit Go.Shelf Go.Maps

/-- What the rounds tell. -/
def rndF (s : Bts) : Nat → Bts → Bts
  | 0, _ => []
  | k + 1, T => if T = [] then [] else ((Wi.lineOf T).1 ++ s ++ (Wi.lineOf (Wi.lineOf T).2.2).1 ++ [10]) ++ rndF s k (Wi.lineOf (Wi.lineOf T).2.2).2.2

/-- Where the rounds stand. -/
structure RndSt (w wr : World) (F : Fx) (M : Nat → Prop) (s : Bts) (fb rd : Nat) (T0 : Bts) (k : Nat) (M1 : Nat → Prop) (T out1 OUT : Bts) : Prop where
  f : FdSt wr F M1 fb rd T out1
  eq : out1 ++ rndF s k T = OUT
  fuel : T.length ≤ k
  mv : MvF M M1 fb rd w wr
  cnt : T.length ≤ T0.length
  big : OUT.length ≤ 4294967296
/-- .. and a round. -/
def RS (s T : Bts) (i : Nat) (L : Bts) (b : Bool) (T' : Bts) : Prop :=
  (i = 0 ∧ L = [] ∧ b = false ∧ T' = T) ∨ (i = 1 ∧ L = (Wi.lineOf T).1 ∧ b = (!T.isEmpty) ∧ T' = (Wi.lineOf T).2.2) ∨
  (i = 2 ∧ L = (Wi.lineOf T).1 ++ s ++ (Wi.lineOf (Wi.lineOf T).2.2).1 ∧ b = (!T.isEmpty) ∧ T' = (Wi.lineOf (Wi.lineOf T).2.2).2.2)
theorem rest_le (T : Bts) : (Wi.lineOf T).1.length + (Wi.lineOf T).2.2.length ≤ T.length := by
  have h := congrArg List.length (Wi.lineOf_spec T)
  simp only [List.length_append] at h
  omega
theorem out_len {W : World} {F : Fx} {M : Nat → Prop} {inp out err : Bts} (h : PrAt W F M inp out err) : lenAt W F.s1 0 = out.length := by
  obtain ⟨v1, v2, b1, -, o1, -, -, -⟩ := h.snk
  obtain ⟨p, c, rfl⟩ := own_shape o1
  exact lenAt_of (b1.cell 0 rfl)
theorem FdSt.outLen {W : World} {F : Fx} {M : Nat → Prop} {fb rd : Nat} {T out : Bts} (h : FdSt W F M fb rd T out) : lenAt W F.s1 0 = out.length := by
  obtain ⟨inp, hp⟩ := h.pr
  exact out_len hp

/-- A row that is being laid, beside a feed. -/
structure RowOk (w1 wx : World) (F : Fx) (M : Nat → Prop) (fb rd : Nat) (v : Value) (L T out : Bts) : Prop where
  own : wx.ownsRow w1.heap.size 5 1 v L.length (L.map u8V)
  fd : FdSt wx F M fb rd T out
  mv : MvF M M fb rd w1 wx
  nb : ∀ k, v.ownBlock = some k → Nb wx fb rd k
theorem RowOk.far {w1 wx : World} {F : Fx} {M : Nat → Prop} {fb rd : Nat} {v : Value} {L T out : Bts} (h : RowOk w1 wx F M fb rd v L T out) (hM : ∀ j, M j → j < w1.heap.size) (hf : fb < w1.heap.size) (hr : rd < w1.heap.size) : ∀ k, v.ownBlock = some k → ¬ M k ∧ k ≠ rd ∧ k ≠ fb ∧ F.n0 ≤ k := fun k e => by
  have h1 := (h.own.lt k e).1
  have h2 := h.fd.own.2.2.2.1
  exact ⟨fun hm => by have := hM k hm; omega, by omega, by omega, by omega⟩
theorem RowOk.grow {w1 wx w2 : World} {F : Fx} {M : Nat → Prop} {fb rd : Nat} {v v' : Value} {L L2 T out : Bts} (h : RowOk w1 wx F M fb rd v L T out) (hM : ∀ j, M j → j < w1.heap.size) (hf : fb < w1.heap.size) (hr : rd < w1.heap.size)
    (hown : w2.ownsRow w1.heap.size 5 1 v' L2.length (L2.map u8V)) (hg : wx.grownBy w2 v.ownBlock) (hb : v'.ownBlock = v.ownBlock ∨ v'.ownBlock = some wx.heap.size) : RowOk w1 w2 F M fb rd v' L2 T out := by
  have hfar := h.far hM hf hr
  have hk : Kept (fun j => v.ownBlock = some j) wx w2 := ⟨hg.os, hg.tape, hg.output, hg.size, fun j hj hs => hg.block j hj fun e => hs e.symm⟩
  refine ⟨hown, h.fd.grown hg fun k e => ⟨(hfar k e).1, (hfar k e).2.1, (hfar k e).2.2.1, (hfar k e).2.2.2, h.nb k e⟩, ⟨h.mv.1.trans' hk fun k hk e => by have := (h.own.lt k e).1; omega, fun j hj => .inl hj⟩, fun k e => ?_⟩
  refine Nb.kept ?_ hk (fun e => (hfar _ e).2.2.1 rfl) (fun e => (hfar _ e).2.1 rfl) h.fd.own.2.2.2.2.2.1 h.fd.own.2.2.2.2.2.2
  rcases hb with hb | hb
  · exact h.nb k (hb ▸ e)
  · rw [hb] at e
    rw [← Option.some.inj e]
    exact h.fd.bufLt _ (Nat.le_refl _)
theorem RowOk.below {w1 wx w2 : World} {F : Fx} {M : Nat → Prop} {fb rd : Nat} {v : Value} {L T out : Bts} (h : RowOk w1 wx F M fb rd v L T out) (hb : Below wx.heap.size wx w2) : RowOk w1 w2 F M fb rd v L T out :=
  ⟨row_keep h.own hb, h.fd.below hb, h.mv.trans (MvF.below hb fb rd), fun k e => (h.nb k e).kept (Kept.of_below (S := fun _ => False) hb) id id h.fd.own.2.2.2.2.2.1 h.fd.own.2.2.2.2.2.2⟩
theorem RowOk.next {w1 wx w2 : World} {F : Fx} {M : Nat → Prop} {fb rd : Nat} {v : Value} {L T T' out : Bts} (h : RowOk w1 wx F M fb rd v L T out) (hM : ∀ j, M j → j < w1.heap.size) (hf : fb < w1.heap.size) (hr : rd < w1.heap.size)
    (hfd : FdSt w2 F M fb rd T' out) (hm : MvF M M fb rd wx w2) (hn : ∀ k, k < wx.heap.size → Nb wx fb rd k → Nb w2 fb rd k) : RowOk w1 w2 F M fb rd v L T' out := by
  have hfar := h.far hM hf hr
  refine ⟨own_kept h.own hm.1 fun k e hk => ?_, hfd, h.mv.trans hm, fun k e => hn k (h.own.lt k e).2 (h.nb k e)⟩
  rcases hk with hk | hk | hk
  · exact (hfar k e).1 hk
  · exact (hfar k e).2.1 hk
  · exact (hfar k e).2.2.1 hk

set_option maxRecDepth 100000 in
set_option maxHeartbeats 8000000 in
theorem rounds_any (F : Fx) (M : Nat → Prop) (s : Bts) (hs1 : 0 < s.length) (hs : s.length ≤ 1000) (lb lo lc gb go gc : Nat) (fb rd : Nat) (T out : Bts) (hT : T.length ≤ 1000000) (hL : T.length ≤ F.line) (hbig : (out ++ rndF s T.length T).length ≤ 4294967296) (w : World) (h : FdSt w F M fb rd T out) (hc : w.cell? ⟨lb, lo, none⟩ = some (.string ⟨s.toArray⟩)) (hlb : ¬ M lb ∧ lb ≠ fb ∧ lb ≠ rd)
    (hg : ∀ i, i < 2 → w.cell? ⟨gb, go + i, none⟩ = some (.pointer (some ⟨fb, 0, none⟩))) (hgb : ¬ M gb ∧ gb ≠ fb ∧ gb ≠ rd) :
    Calls Tryz.prog 107 #[.pointer (some ⟨F.p, 0, none⟩), .slice (some ⟨gb, go, none⟩) 2 gc, .slice (some ⟨lb, lo, none⟩) 1 lc] w fun e w' => e = .returned (.bool true) ∧ ∃ M', FdSt w' F M' fb rd [] (out ++ rndF s T.length T) ∧ MvF M M' fb rd w w' := by
  have hst0 : RndSt w w F M s fb rd T T.length M T out (out ++ rndF s T.length T) := ⟨h, rfl, Nat.le_refl _, MvF.refl _ _ _ _, Nat.le_refl _, hbig⟩
  have HS0 := Lib.hid hst0
  have HC := Lib.hid hc
  have HGC := Lib.hid hg
  have hlw : lb < w.heap.size := World.block_lt_of_cell? _ _ hc
  have hgw : gb < w.heap.size := World.block_lt_of_cell? _ _ (hg 0 (by decide))
  generalize hOUT : out ++ rndF s T.length T = OUT at *
  have HML := Lib.hid (show ∀ j, M j → j < w.heap.size by
    obtain ⟨inp, hp⟩ := h.pr
    exact hp.lt)
  have HOW := Lib.hid h.own
  clear hst0 h hc hg hOUT
  go_enter Tryz.func107, Tryz.ntmps107
  go_wp2_with fail
  go_loopw [7, 8, 9, 10, 11, 12, 15] (fun _ _ _ _ _ _ _ wr => ∃ k M1 T1 out1, Hid (RndSt w wr F M s fb rd T k M1 T1 out1 OUT)) (fun _ _ _ _ _ _ _ wr => OUT.length + 1 - lenAt wr F.s1 0)
  case atStart => exact ⟨_, M, T, out, HS0⟩
  case round =>
    clear HS0
    obtain ⟨k, M1, T1, out1, HS1⟩ := hrel
    have hcnt := HS1.out.cnt
    have hT1 : T1.length ≤ 1000000 := Nat.le_trans hcnt hT
    have hL1 : T1.length ≤ F.line := Nat.le_trans hcnt hL
    have hkeep : ∀ wx, MvF M1 M1 fb rd wr wx → (∀ j, j < w.heap.size → ¬ M j → j ≠ fb → j ≠ rd → wx.heap[j]? = w.heap[j]?) := fun wx hm j hj h1 h2 h3 => (HS1.out.mv.trans hm).1.block j hj fun e => by
      rcases e with e | e | e
      · exact h1 e
      · exact h3 e
      · exact h2 e
    have HKP := Lib.hid hkeep
    have HM1 := Lib.hid (show ∀ j, M1 j → j < wr.heap.size by
      obtain ⟨inp, hp⟩ := HS1.out.f.pr
      exact hp.lt)
    have hwr : w.heap.size ≤ wr.heap.size := HS1.out.mv.1.size
    have hfb1 : fb < wr.heap.size := HS1.out.f.own.2.2.2.2.2.1
    have hrd1 : rd < wr.heap.size := HS1.out.f.own.2.2.2.2.2.2
    clear hkeep hcnt
    obtain ⟨w1, hw1⟩ : ∃ w1, w1 = wr := ⟨_, rfl⟩
    subst hw1
    go_wp2_with fail
    go_loopw [7, 8, 9, 10, 11, 12, 15] (fun x7 x8 _ _ _ _ x15 wx => ∃ (i : Nat) (L : Bts) (b : Bool) (T' : Bts), x15 = .int .i64 i ∧ x8 = .bool b ∧ Hid (RowOk w1 wx F M1 fb rd x7 L T' out1) ∧ Hid (RS s T1 i L b T')) (fun _ _ _ _ _ _ x15 _ => 2 - (intOf x15).toNat)
    case atStart => exact ⟨0, [], false, T1, rfl, rfl, Lib.hid ⟨World.ownsRow_nil _ _ _ _, HS1.out.f, MvF.refl _ _ _ _, fun k e => by cases e⟩, Lib.hid (.inl ⟨rfl, rfl, rfl, rfl⟩)⟩
    case round =>
      obtain ⟨i, L, b, T', rfl, rfl, HRO, HRS⟩ := hrel
      obtain ⟨p7, c7, rfl⟩ := own_shape HRO.out.own
      obtain ⟨wx, hwx⟩ : ∃ w2, w2 = wr := ⟨_, rfl⟩
      subst hwx
      have hkx := HKP.out wx HRO.out.mv
      have hfc : wx.heap[gb]? = w.heap[gb]? := hkx gb hgw hgb.1 hgb.2.1 hgb.2.2
      have hlc : wx.heap[lb]? = w.heap[lb]? := hkx lb hlw hlb.1 hlb.2.1 hlb.2.2
      have cl : wx.cell? ⟨lb, lo, none⟩ = some (.string ⟨s.toArray⟩) := (World.cell?_of_block hlc).trans HC.out
      have hw1x : w1.heap.size ≤ wx.heap.size := HRO.out.mv.1.size
      have hr1 := rest_le T1
      have hr2 := rest_le (Wi.lineOf T1).2.2
      have HR1 := Lib.hid hr1
      have HR2 := Lib.hid hr2
      clear hkx hlc hr1 hr2
      rcases HRS.out with ⟨rfl, rfl, rfl, rfl⟩ | ⟨rfl, rfl, hbe, rfl⟩ | ⟨rfl, rfl, hbe, rfl⟩
      · have g0 : wx.cell? ⟨gb, go, none⟩ = some (.pointer (some ⟨fb, 0, none⟩)) := (World.cell?_of_block hfc).trans (HGC.out 0 (by decide))
        have hnx := next_any F M1 fb rd T' out1 hT1 hL1 wx HRO.out.fd
        obtain ⟨bb, hbb⟩ : ∃ bb, (!T'.isEmpty) = bb := ⟨_, rfl⟩
        have HBB := Lib.hid hbb
        unfold NextPost at hnx
        rw [hbb] at hnx
        clear hfc hbb
        go_wp2_with fail
        refine hnx.mono ?_
        rintro e w2 ⟨v2, rfl, ho2, hf2, hm2, hn2⟩
        obtain ⟨p2, c2, rfl⟩ := own_shape ho2
        have HR3 := Lib.hid (HRO.out.next HM1.out hfb1 hrd1 hf2 hm2 hn2)
        have HBS := Lib.hid (show Bs w2 p2 (Wi.lineOf T').1 by
          obtain ⟨p', c', e', hb'⟩ := bs_of_own ho2
          injection e' with e1 _ _
          rw [e1]; exact hb')
        have hbs2 : w1.heap.size ≤ w2.heap.size := HR3.out.mv.1.size
        have hll : (Wi.lineOf T').1.length ≤ 1000000 := by have := HR1.out; omega
        clear hnx ho2 hf2 hm2 hn2 g0 cl
        go_wp2_with (at_builtin; refine append_bytes rfl _ _ rfl w1.heap.size _ 0 [] rfl HR3.out.own p2 (Wi.lineOf T').1 c2 rfl HBS.out (by omega) hbs2 ?_; intro v4 w4 ho4 hg4 hv4)
        have HR4 := Lib.hid (HR3.out.grow (L2 := (Wi.lineOf T').1) HM1.out hfb1 hrd1 (by simpa using ho4) hg4 hv4)
        clear ho4 hg4 hv4
        go_roundw
        case rel => exact ⟨1, _, bb, _, rfl, rfl, HR4, Lib.hid (.inr (.inl ⟨rfl, rfl, HBB.out.symm, rfl⟩))⟩
        case measure => simp [intOf]
      · have g1 : wx.cell? ⟨gb, go + 1, none⟩ = some (.pointer (some ⟨fb, 0, none⟩)) := (World.cell?_of_block hfc).trans (HGC.out 1 (by decide))
        obtain ⟨L0, hL0⟩ : ∃ L0, (Wi.lineOf T1).1 = L0 := ⟨_, rfl⟩
        obtain ⟨R0, hR0⟩ : ∃ R0, (Wi.lineOf T1).2.2 = R0 := ⟨_, rfl⟩
        have hr1 := HR1.out
        have hr2 := HR2.out
        have hro := HRO.out
        rw [hL0, hR0] at hr1
        rw [hR0] at hr2
        rw [hL0, hR0] at hro
        have HRO1 := Lib.hid hro
        have HE0 := Lib.hid (And.intro hL0 hR0)
        rw [hL0]
        have hbt : b = (!T1.isEmpty) := hbe
        have hRne : R0 ≠ [] → (!T1.isEmpty) = true := fun h => by
          cases T1 with
          | nil => exact absurd hR0.symm h
          | cons _ _ => rfl
        have HBT := Lib.hid hbt
        have HRN := Lib.hid hRne
        clear hL0 hR0 hro hbe hbt hRne HRO HRS hfc
        have hsl : L0.length + s.length ≤ 4294967296 := by omega
        go_wp2_with (at_builtin; refine append_str rfl _ _ rfl w1.heap.size _ L0 rfl HRO1.out.own s rfl hs1 hsl hw1x ?_; intro v2 w2 ho2 hg2 hv2)
        have HR3 := Lib.hid (HRO1.out.grow HM1.out hfb1 hrd1 ho2 hg2 hv2)
        obtain ⟨p2, c2, rfl⟩ := own_shape ho2
        clear ho2 hg2 hv2
        have hnx := next_any F M1 fb rd R0 out1 (by omega) (by omega) w2 HR3.out.fd
        obtain ⟨bb, hbb⟩ : ∃ bb, (!R0.isEmpty) = bb := ⟨_, rfl⟩
        have HBB := Lib.hid hbb
        unfold NextPost at hnx
        rw [hbb] at hnx
        clear hbb
        refine hnx.mono ?_
        rintro e w3 ⟨v3, rfl, ho3, hf3, hm3, hn3⟩
        obtain ⟨p3, c3, rfl⟩ := own_shape ho3
        obtain ⟨LL, hLL⟩ : ∃ LL, L0 ++ s = LL := ⟨_, rfl⟩
        have hr3 := HR3.out
        rw [hLL] at hr3 ⊢
        have HR4 := Lib.hid (hr3.next HM1.out hfb1 hrd1 hf3 hm3 hn3)
        have HBS := Lib.hid (show Bs w3 p3 (Wi.lineOf R0).1 by
          obtain ⟨p', c', e', hb'⟩ := bs_of_own ho3
          injection e' with e1 _ _
          rw [e1]; exact hb')
        have hbs3 : w1.heap.size ≤ w3.heap.size := HR4.out.mv.1.size
        have hlen : LL.length + (Wi.lineOf R0).1.length ≤ 4294967296 := by
          rw [← hLL, List.length_append]; omega
        have HLL := Lib.hid hLL
        clear hnx ho3 hf3 hm3 hn3 g1 cl hr3 HR3 HRO1 hLL
        have hbb2 : b = false → bb = false := fun e => by
          rw [← HBB.out]
          cases hR : R0 with
          | nil => rfl
          | cons x y =>
            have h1 := HRN.out (by rw [hR]; simp)
            rw [← HBT.out, e] at h1
            cases h1
        have HBB2 := Lib.hid hbb2
        clear hbb2
        have HRS2 : ∀ w4 v4, RowOk w1 w4 F M1 fb rd v4 (LL ++ (Wi.lineOf R0).1) (Wi.lineOf R0).2.2 out1 → RS s T1 2 (LL ++ (Wi.lineOf R0).1) b (Wi.lineOf R0).2.2 := fun _ _ _ => .inr (.inr ⟨rfl, by rw [HE0.out.1, HE0.out.2, HLL.out], HBT.out, by rw [HE0.out.2]⟩)
        have HRS3 := Lib.hid HRS2
        clear HRS2
        cases b with
        | true =>
          go_wp2_with (at_builtin; refine append_bytes rfl _ _ rfl w1.heap.size _ LL.length (LL.map u8V) rfl HR4.out.own p3 (Wi.lineOf R0).1 c3 rfl HBS.out hlen hbs3 ?_; intro v4 w4 ho4 hg4 hv4)
          have hr4 := HR4.out.grow (L2 := LL ++ (Wi.lineOf R0).1) HM1.out hfb1 hrd1 (by simpa using ho4) hg4 hv4
          have HRS4 := Lib.hid (HRS3.out _ _ hr4)
          have HR5 := Lib.hid hr4
          clear ho4 hg4 hv4 hr4
          go_roundw
          case rel => exact ⟨2, _, true, _, rfl, rfl, HR5, HRS4⟩
          case measure => simp [intOf]
        | false =>
          obtain rfl : bb = false := HBB2.out rfl
          go_wp2_with (at_builtin; refine append_bytes rfl _ _ rfl w1.heap.size _ LL.length (LL.map u8V) rfl HR4.out.own p3 (Wi.lineOf R0).1 c3 rfl HBS.out hlen hbs3 ?_; intro v4 w4 ho4 hg4 hv4)
          have hr4 := HR4.out.grow (L2 := LL ++ (Wi.lineOf R0).1) HM1.out hfb1 hrd1 (by simpa using ho4) hg4 hv4
          have HRS4 := Lib.hid (HRS3.out _ _ hr4)
          have HR5 := Lib.hid hr4
          clear ho4 hg4 hv4 hr4
          go_roundw
          case rel => exact ⟨2, _, false, _, rfl, rfl, HR5, HRS4⟩
          case measure => simp [intOf]
      · obtain ⟨L0, hL0⟩ : ∃ L0, (Wi.lineOf T1).1 = L0 := ⟨_, rfl⟩
        obtain ⟨R0, hR0⟩ : ∃ R0, (Wi.lineOf T1).2.2 = R0 := ⟨_, rfl⟩
        obtain ⟨L9, hL9⟩ : ∃ L9, L0 ++ s ++ (Wi.lineOf R0).1 = L9 := ⟨_, rfl⟩
        obtain ⟨R1, hR1⟩ : ∃ R1, (Wi.lineOf R0).2.2 = R1 := ⟨_, rfl⟩
        have hr1 := HR1.out
        have hr2 := HR2.out
        have hro := HRO.out
        have heq := HS1.out.eq
        have hfu := HS1.out.fuel
        rw [hL0, hR0] at hr1
        rw [hR0, hR1] at hr2
        rw [hL0, hR0, hL9, hR1] at hro
        rw [hL0, hR0, hL9]
        have HRO1 := Lib.hid hro
        clear hro HRO HRS cl hfc
        by_cases hne : T1 = []
        · have hbf : b = false := by rw [hbe, hne]; rfl
          subst hbf
          have hR1e : R1 = [] := by rw [← hR1, ← hR0, hne]; rfl
          have hO : out1 = OUT := by
            rw [← heq, hne]
            cases k <;> simp [rndF]
          subst hR1e hO
          clear hne hbe hL0 hR0 hL9 hR1 heq hfu
          go_wp2_with fail
          go_ret
          exact ⟨rfl, M1, HRO1.out.fd, HS1.out.mv.trans HRO1.out.mv⟩
        · have hbt : b = true := by
            rw [hbe]
            cases T1 with
            | nil => exact absurd rfl hne
            | cons _ _ => rfl
          subst hbt
          obtain ⟨k', rfl⟩ : ∃ k', k = k' + 1 := ⟨k - 1, by
            have : 0 < T1.length := List.length_pos_iff.2 hne
            omega⟩
          rw [rndF, if_neg hne, hL0, hR0, hL9, hR1] at heq
          have hrl := Wi.lineOf_rest T1 hne
          rw [hR0] at hrl
          have HEQ := Lib.hid heq
          have HLS := Lib.hid (And.intro hrl (And.intro hr2 (And.intro hfu HS1.out.cnt)))
          have hL9l : L9.length ≤ 1001000 := by
            rw [← hL9]; simp only [List.length_append]; omega
          clear hne hbe hL0 hR0 hL9 hR1 heq hfu hrl hr1 hr2
          have hal : Below wx.heap.size wx (wx.alloc (.cells #[.int .u8 10] 5)) := (Below.refl _ _).alloc (Nat.le_refl _) _
          have HRO2 := Lib.hid (HRO1.out.below hal)
          have HB10 := Lib.hid (bs_one wx 10 5)
          have hbs2 : w1.heap.size ≤ (wx.alloc (.cells #[.int .u8 10] 5)).heap.size := Nat.le_trans hw1x hal.size
          clear hal
          go_wp2_with (at_builtin; refine append_bytes rfl _ _ rfl w1.heap.size _ L9.length (L9.map u8V) rfl HRO2.out.own (some ⟨wx.heap.size, 0, none⟩) [10] 1 rfl HB10.out (by simp; omega) hbs2 ?_; intro v4 w4 ho4 hg4 hv4)
          have hr4 := HRO2.out.grow (L2 := L9 ++ [10]) HM1.out hfb1 hrd1 (by simpa using ho4) hg4 hv4
          obtain ⟨p4, c4, rfl⟩ := own_shape hr4.own
          obtain ⟨inp, hp4, hpass⟩ := hr4.fd.pass
          have hs4 : Sl w4 (fun g => ¬ M1 g) (.slice p4 (L9 ++ [10]).length c4) (L9 ++ [10]) := (Sl.own hr4.own).mono fun g _ hg hm => by
            have h1 := HM1.out g hm
            have h2 := hg.1
            omega
          have hlo : out1.length + (L9 ++ [10]).length ≤ OUT.length := by
            have h1 := congrArg List.length HEQ.out
            simp only [List.length_append] at h1 ⊢
            omega
          have hsy := saysC_any F M1 inp out1 [] (L9 ++ [10]) _ w4 hp4 hs4 (Nat.le_trans hlo hbig)
          have HPASS := Lib.hid hpass
          have HR4 := Lib.hid hr4
          have HLO := Lib.hid hlo
          clear ho4 hg4 hv4 hr4 hp4 hpass hs4 hlo
          simp only [List.length_append, List.length_singleton] at hsy ⊢
          refine hsy.mono ?_
          rintro e w6 ⟨rfl, M6, hp6, hm6⟩
          have hf6 := HPASS.out w6 M6 _ hp6 hm6
          have hst : RndSt w w6 F M s fb rd T k' M6 R1 (out1 ++ (L9 ++ [10])) OUT := by
            have hls := HLS.out
            refine ⟨hf6, by rw [List.append_assoc]; exact HEQ.out, ?_, (HS1.out.mv.trans HR4.out.mv).trans (hm6.fd fb rd), ?_, HS1.out.big⟩
            · exact Nat.le_of_lt_succ (Nat.lt_of_lt_of_le (Nat.lt_of_le_of_lt (Nat.le_trans (Nat.le_add_left _ _) hls.2.1) hls.1) hls.2.2.1)
            · exact Nat.le_trans (Nat.le_trans (Nat.le_trans (Nat.le_add_left _ _) hls.2.1) (Nat.le_of_lt hls.1)) hls.2.2.2
          have hms : OUT.length + 1 - lenAt w6 F.s1 0 < OUT.length + 1 - lenAt w1 F.s1 0 := by
            have h1 := hf6.outLen
            have h2 := HS1.out.f.outLen
            have h3 := HLO.out
            rw [h1, h2]
            simp only [List.length_append, List.length_singleton] at h3 ⊢
            omega
          have HST := Lib.hid hst
          have HMS := Lib.hid hms
          clear hsy hp6 hm6 hf6 hst hms
          go_wp2_with fail
          go_roundw
          case rel => exact ⟨k', M6, R1, _, HST⟩
          case measure => exact HMS.out

end Go.Proofs.YtjdcjdclipbjhaaGreatDoor

/-
  Small walks of paste: signs of one byte, no feed has failed. Condition: the feeds are in memory.
-/
namespace Go.Proofs.YtjdcjdclipbjhaaGreatDoor
open Go.RowKit Go.Shelf Go.Maps

set_option maxRecDepth 100000 in
set_option maxHeartbeats 4000000 in
theorem signs1_any (w : World) :
    Calls Tryz.prog 103 #[.string ⟨#[44]⟩] w fun e w' => ∃ v, e = .returned v ∧ w'.ownsRow w.heap.size 9 1 v 1 [.string ⟨#[44]⟩] ∧ Below w.heap.size w w' := by
  obtain ⟨i0, hi, hz0, hz1, hz2⟩ := info_parts info_str
  have hx : (⟨#[44]⟩ : ByteArray).extract 0 1 = ⟨#[44]⟩ := by decide
  have he : ((⟨#[44]⟩ : ByteArray) == ⟨#[92]⟩) = false := by decide
  have hsz : (⟨#[44]⟩ : ByteArray).size = 1 := rfl
  go_enter Tryz.func103, Tryz.ntmps103
  go_wp2_with fail
  go_loopw [3, 4, 5, 34, 36, 38] (fun x3 x4 _ _ _ _ wr => (x4 = .int .i64 0 ∧ x3 = .slice none 0 0 ∧ wr = w) ∨ (x4 = .int .i64 1 ∧ Hid (wr.ownsRow w.heap.size 9 1 x3 1 [.string ⟨#[44]⟩]) ∧ Hid (Below w.heap.size w wr))) (fun _ x4 _ _ _ _ _ => 1 - (intOf x4).toNat)
  case atStart => exact .inl ⟨rfl, rfl, rfl⟩
  case round =>
    rcases hrel with ⟨rfl, rfl, rfl⟩ | ⟨rfl, HO, HB⟩
    · go_wp2_with (at_builtin; refine wpList_append_own _ rfl _ _ 37 rfl wr.heap.size 9 i0 (.string ⟨#[]⟩) 1 16 Tryz.underlying37 hi hz0 hz1 hz2 rfl (by decide) _ _ _ rfl ((World.ownsRow_nil wr wr.heap.size 9 1).alloc _) ⟨wr.heap.size, 0, none⟩ 1 1 [.string ⟨#[44]⟩] rfl rfl (cell_one_new _ _ _) (by simp [Value.oneCell']) (by unfold maxLen; first | omega | (simp <;> omega)) (by first | omega | (simp <;> omega)) (by simp) ?_; intro v' w3 hown' hgrow _)
      have hb3 : Below wr.heap.size wr w3 := ((Below.refl _ wr).alloc (Nat.le_refl _) _).grown hgrow (by simp) fun j hj => by cases hj
      go_roundw
      case rel => exact .inr ⟨rfl, Lib.hid hown', Lib.hid hb3⟩
      case measure => simp [intOf]
    · go_wp2_with fail
      go_ret
      exact ⟨_, rfl, HO.out, HB.out⟩

set_option maxRecDepth 100000 in
theorem failed1_any (fb : Nat) (w : World) (h : w.cell? ⟨fb, 3, none⟩ = some (.int .i64 0)) :
    Calls Tryz.prog 109 #[.pointer (some ⟨fb, 0, none⟩)] w fun e w' => e = .returned (.bool false) ∧ w' = w := by
  go_enter Tryz.func109, Tryz.ntmps109
  go_wp2_with fail
  go_ret
  exact ⟨rfl, rfl⟩

set_option maxRecDepth 100000 in
set_option maxHeartbeats 4000000 in
theorem failed_any (fb gb go n gc : Nat) (hn : n ≤ 1000) (w : World) (h : w.cell? ⟨fb, 3, none⟩ = some (.int .i64 0)) (hg : ∀ i, i < n → w.cell? ⟨gb, go + i, none⟩ = some (.pointer (some ⟨fb, 0, none⟩))) :
    Calls Tryz.prog 108 #[.slice (some ⟨gb, go, none⟩) n gc, .func (.func 109) #[] #[]] w fun e w' => e = .returned (.bool false) ∧ w' = w := by
  have h1 := failed1_any fb w h
  have hidx : Calls Tryz.prog 166 #[.slice (some ⟨gb, go, none⟩) n gc, .func (.func 109) #[] #[]] w fun e w' => e = .returned (.int .i64 (-1)) ∧ w' = w := by
    have HG := Lib.hid hg
    clear hg h
    go_enter Tryz.func166, Tryz.ntmps166
    go_wp2_with fail
    go_loopw [5, 8] (fun _ i wr => ∃ k : Nat, k ≤ n ∧ i = .int .i64 k ∧ wr = w) (fun _ i _ => n - (intOf i).toNat)
    case atStart => exact ⟨0, Nat.zero_le _, rfl, rfl⟩
    case round =>
      obtain ⟨k, hk, rfl, rfl⟩ := hrel
      by_cases hlt : k < n
      · have hc := HG.out k hlt
        go_wp2_with fail
        refine h1.mono ?_
        rintro e w2 ⟨rfl, rfl⟩
        go_wp2_with fail
        go_roundw
        case rel => exact ⟨k + 1, by omega, by go_num, by first | rfl | trivial⟩
        case measure => simp [intOf]; omega
      · obtain rfl : k = n := by omega
        go_wp2_with fail
        go_ret
        exact ⟨rfl, rfl⟩
  clear hg h h1
  go_enter Tryz.func108, Tryz.ntmps108
  go_wp2_with fail
  refine hidx.mono ?_
  rintro e w2 ⟨rfl, rfl⟩
  go_wp2_with fail
  go_ret
  exact ⟨rfl, rfl⟩

end Go.Proofs.YtjdcjdclipbjhaaGreatDoor
