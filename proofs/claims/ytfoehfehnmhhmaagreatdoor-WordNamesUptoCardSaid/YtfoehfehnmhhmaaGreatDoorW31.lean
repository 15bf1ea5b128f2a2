/-
  The walk of the lexer's word. Condition: lengths.
-/
import Derived.Test.YtfoehfehnmhhmaaGreatDoorW30
import Derived.Deep.RegionLaw
import Derived.Deep.AppendLies
namespace Go.Proofs.YtfoehfehnmhhmaaGreatDoor
open Go.RowKit Go.Shelf Go.Maps

/-- What a round of word knows. -/
structure WordIn (w wr : World) (b q : Nat) (s bts : Wd.Bytes) (l : List (Nat × Wd.Bytes)) (v : Value) (g : Nat) (res : Wd.Bytes × Wd.Bytes) (N : Nat) : Prop where
  run : Wd.wordF g bts s = some res
  lx : LxIs w wr b s l v v
  bld : Bld wr q q bts
  len : bts.length + s.length ≤ N
  size : q < wr.heap.size

theorem WordIn.step {w wr w' : World} {b q : Nat} {s bts : Wd.Bytes} {l : List (Nat × Wd.Bytes)} {v : Value} {g : Nat} {res : Wd.Bytes × Wd.Bytes} {N : Nat} (h : WordIn w wr b q s bts l v g res N) (hb : Below q wr w') (hbq : b < q) (hv : ∀ k, v.ownBlock = some k → k < q) (hq : w.heap.size = q) : LxIs w w' b s l v v := by
  have h2 := h.lx.at_
  refine ⟨⟨h2.blk.keep hb hbq, ?_⟩, ⟨hb.os.trans h.lx.kept.os, hb.tape.trans h.lx.kept.tape, hb.output.trans h.lx.kept.output, Nat.le_trans h.lx.kept.size hb.size, ?_⟩, h.lx.fresh⟩
  · exact own_kept (S := fun k => q ≤ k) h2.own ⟨hb.os, hb.tape, hb.output, hb.size, fun k _ hk => hb.block k (by omega)⟩ (fun k e => by have := hv k e; omega)
  · exact fun k hk hs => (hb.block k (by omega)).trans (h.lx.kept.block k hk hs)

theorem stops_any (c : UInt8) (w : World) : ∃ r : Int, (r < 0 ↔ Wd.stops c = false) ∧ -1 ≤ r ∧ r < 100 ∧ Calls Tryz.prog 52 #[.string ⟨#[32, 9, 10, 59, 124, 38, 60, 62, 40, 41]⟩, .int .u8 c.toNat] w fun e w' => e = .returned (.int .i64 r) ∧ w' = w := by
  have h := indexByte_any [32, 9, 10, 59, 124, 38, 60, 62, 40, 41] c w
  have h2 := idx_mem c [32, 9, 10, 59, 124, 38, 60, 62, 40, 41]
  cases hx : Wd.idx c [32, 9, 10, 59, 124, 38, 60, 62, 40, 41] with
  | none =>
    rw [hx] at h h2
    exact ⟨-1, ⟨fun _ => by unfold Wd.stops; rw [← h2]; rfl, fun _ => by omega⟩, by omega, by omega, h⟩
  | some n =>
    rw [hx] at h h2
    have := idx_lt hx
    simp at this
    exact ⟨n, ⟨fun _ => by omega, fun hh => by unfold Wd.stops at hh; rw [← h2] at hh; cases hh⟩, by omega, by omega, h⟩

theorem bld_set {w : World} {b q : Nat} {s : Wd.Bytes} (h : Bld w q q s) (hbq : b < q) (x : Value) : Bld (w.setCell ⟨b, 0, none⟩ x) q q s := by
  have hk : Kept (· = b) w (w.setCell ⟨b, 0, none⟩ x) := (Kept.refl (· = b) w).setCell (.inl rfl) 0 _
  have key : ∀ p, Lib.BuilderAt 73 5 q q p (Lib.byteCells s) w → Lib.BuilderAt 73 5 q q p (Lib.byteCells s) (w.setCell ⟨b, 0, none⟩ x) := by
    intro p h
    have hlt := h.lt
    obtain ⟨h1, v, h2, h3, h4⟩ := h
    refine ⟨h1, v, (hk.block q hlt (by omega)).trans h2, own_kept h3 hk (fun k e => ?_), h4⟩
    have := (h3.lt k e).1
    omega
  rcases h with h | h
  · exact .inl (key _ h)
  · exact .inr (key _ h)

theorem lenB (B b : Nat) (s : Wd.Bytes) (w : World) (h : Bld w B b s) :
    Calls Tryz.prog 71 #[.pointer (some ⟨b, 0, none⟩)] w fun e w' => e = .returned (.int .i64 s.length) ∧ w' = w := by
  have := Any.Builder_Len Tryz.lays170 B b (Lib.byteCells s) w h
  rw [Lib.byteCells_length] at this
  exact this

set_option maxHeartbeats 6400000 in
set_option maxRecDepth 100000 in
theorem word1_any (w : World) (b : Nat) (s bts s2 : Wd.Bytes) (l : List (Nat × Wd.Bytes)) (v : Value) (h : LxAt w b s l v) (hl : l.length ≤ 1073741824) (hs : s.length < 1073741824) (hr : Wd.wordF (s.length + 1) [] s = some (bts, s2)) (hb : bts ≠ []) :
    Calls Tryz.prog 56 #[.pointer (some ⟨b, 0, none⟩)] w fun e w' => e = .returned (.tuple #[]) ∧ ∃ v', LxIs w w' b s2 (l ++ [(1, bts)]) v v' := by
  obtain ⟨i0, hi0, hz0, hz1, hz2⟩ := info_parts info_tok
  have hblt := h.blk.lt
  have hvq : ∀ k, v.ownBlock = some k → k < w.heap.size := fun k e => (h.own.lt k e).2
  have hbO : Below w.heap.size w (w.alloc (.cells #[.pointer none, .slice none 0 0] 73)) := (Below.refl _ _).alloc (Nat.le_refl _) _
  have HI : Hid (WordIn w (w.alloc (.cells #[.pointer none, .slice none 0 0] 73)) b w.heap.size s [] l v (s.length + 1) (bts, s2) s.length) :=
    ⟨hr, h.is.below hbO, Bld.fresh w, by simp, by simp⟩
  have HV := Lib.hid hvq
  have H := Lib.hid h
  clear h hr hvq hbO
  go_enter Tryz.func56, Tryz.ntmps56
  go_wp2_with fail
  generalize w.alloc (.cells #[.pointer none, .slice none 0 0] 73) = w1 at *
  obtain ⟨q, hq⟩ : ∃ q, w.heap.size = q := ⟨_, rfl⟩
  rw [hq] at HI HV ⊢
  rw [hq] at hblt
  have HQ := Lib.hid hq
  clear hq
  go_loopg [3, 4, 5] (s.length + 1) (fun g _ _ _ wr => ∃ (s1 bts1 : Wd.Bytes), g ≤ s.length + 1 ∧ Hid (WordIn w wr b q s1 bts1 l v g (bts, s2) s.length))
  case atStart => exact ⟨s, [], Nat.le_refl _, HI⟩
  case round =>
    obtain ⟨s1, bts1, hg, HR⟩ := hrel
    obtain ⟨k, rfl⟩ : ∃ k, gk = k + 1 := by
      cases gk with
      | zero => exact absurd HR.out.run (by simp [Wd.wordF])
      | succ k => exact ⟨k, rfl⟩
    have hr := HR.out.run
    have hlen := HR.out.len
    have hlx := HR.out.lx
    have c0 : wr.cell? ⟨b, 0, none⟩ = some (.string ⟨s1.toArray⟩) := hlx.at_.blk.cell 0 rfl
    have hqs := HR.out.size
    have hbld := HR.out.bld
    by_cases hstop : s1 = [] ∨ ∃ c r, s1 = c :: r ∧ Wd.stops c = true
    · have hres : bts1 = bts ∧ s1 = s2 := by
        rw [Wd.wordF.eq_def] at hr
        rcases hstop with rfl | ⟨c, r, rfl, hc⟩
        · simp only at hr; cases hr; exact ⟨rfl, rfl⟩
        · simp only at hr; rw [if_pos hc] at hr; cases hr; exact ⟨rfl, rfl⟩
      obtain ⟨rfl, rfl⟩ := hres
      have hLen := lenB q q bts1 wr hbld
      have hbl : (0 : Int) < (bts1.length : Int) := by
        have : bts1.length ≠ 0 := fun e => hb (List.length_eq_zero_iff.1 e)
        omega
      have hbl2 : 0 < bts1.length := by omega
      have c1 : wr.drew.cell? ⟨b, 1, none⟩ = some v := hlx.at_.blk.cell 1 rfl
      have hstr := stringB q q bts1 wr.drew hbld (by show q ≤ wr.heap.size; omega)
      have HSTR := Lib.hid hstr
      have HSTEP : Hid (∀ w', Below q wr w' → LxIs w w' b s1 l v v) := fun w' hb => HR.out.step hb hblt HV.out HQ.out
      have hcase : (∃ (_ : s1 = []), True) ∨ ∃ c r, ∃ (_ : s1 = c :: r), ∃ x : Int, 0 ≤ x ∧ Calls Tryz.prog 52 #[.string ⟨#[32, 9, 10, 59, 124, 38, 60, 62, 40, 41]⟩, .int .u8 c.toNat] wr fun e w' => e = .returned (.int .i64 x) ∧ w' = wr := by
        rcases hstop with rfl | ⟨c, r, rfl, hc⟩
        · exact .inl ⟨rfl, trivial⟩
        · obtain ⟨x, hx, -, -, hcall⟩ := stops_any c wr
          exact .inr ⟨c, r, rfl, x, by
            by_cases h0 : x < 0
            · rw [hx.1 h0] at hc; cases hc
            · omega, hcall⟩
      clear hr hlx hbld hstop hstr
      rcases hcase with ⟨rfl, -⟩ | ⟨c, r, rfl, x, hx0, hcall⟩
      · go_wp2_with fail
        refine hLen.mono ?_
        rintro e w3 ⟨rfl, rfl⟩
        clear hLen
        go_wp2_with fail
        go_region_law
          ((first
            | (refine step_append_lies _ (by rfl) _ _ _ (by rfl) (b + 1) 43 i0 _ 2 24 Tryz.underlying39 hi0 hz0 hz1 hz2 rfl (by decide) v l.length (toks l) (by rfl) HO6.out
                ⟨w6.heap.size, 0, none⟩ 1 1 [.int .i64 1, .string ⟨bts1.toArray⟩] (by rfl) (by rfl) HC6.out (by simp [Value.oneCell'])
                (by decide) (by unfold maxLen; omega) (by omega) (by have := HX6.out.at_.blk.lt; simp; omega) (w6.heap.size + 1) (by simp) ?_; intro gg cap w7 hown7 hgrow hat hlt7; have HK7 := Lib.hid (kept_grown ((Kept.refl _ w6).alloc _) hgrow); have B7 := HX6.out.at_.blk.kept HK7.out hn6; have j7 := B7.cell 1 (v := v) rfl; have f7 := B7.free 1; have HP := Lib.hid (HX6.out.at_.pushed (k := 1) ((Kept.refl _ w6).alloc _) hown7 hgrow (by rintro k' e; rcases hat with e2 | e2; exact .inl (by rw [e2]; exact e); exact .inr (by have : gg = k' := (by injection e); simp; omega))); clear hown7 hgrow hat B7)
            | (go_simp; go_at_call 40; refine HSTR.out.mono ?_; rintro e w6 ⟨rfl, hb6⟩; have HX6 := Lib.hid (HSTEP.out w6 ⟨hb6.os, hb6.tape, hb6.output, hb6.size, hb6.block⟩); have d6 := HX6.out.at_.blk.cell 1 (v := v) rfl; have d7 := (HX6.out.at_.blk.alloc (.cells #[.int .i64 1, .string ⟨bts1.toArray⟩] 43)).cell 1 (v := v) rfl; have hn6 : v.ownBlock ≠ some b := (fun e => by have := (HX6.out.at_.own.lt b e).1; omega); have HO6 := Lib.hid (HX6.out.at_.own.alloc (.cells #[.int .i64 1, .string ⟨bts1.toArray⟩] 43)); have HC6 : Hid (∀ j u, [Value.int .i64 1, .string ⟨bts1.toArray⟩][j]? = some u → (w6.alloc (.cells #[.int .i64 1, .string ⟨bts1.toArray⟩] 43)).cell? ((⟨w6.heap.size, 0, none⟩ : Addr).add j) = some u) := cells_new _ #[_, _] _)))
        all_goals
          go_wp2_with fail
          refine bodyPost_end (results_none rfl _ _ _) rfl ?_
          exact ⟨rfl, _, HX6.out.trans HP.out⟩
      · have es : ((⟨(c :: r).toArray⟩ : ByteArray) == ⟨#[]⟩) = false := str_nil _
        have is0 : ∀ h, (⟨(c :: r).toArray⟩ : ByteArray)[0]'h = c := fun _ => rfl
        go_wp2_with fail
        refine hcall.mono ?_
        rintro e w3 ⟨rfl, rfl⟩
        clear hcall
        go_wp2_with fail
        refine hLen.mono ?_
        rintro e w3 ⟨rfl, rfl⟩
        clear hLen
        go_wp2_with fail
        go_region_law
          ((first
            | (refine step_append_lies _ (by rfl) _ _ _ (by rfl) (b + 1) 43 i0 _ 2 24 Tryz.underlying39 hi0 hz0 hz1 hz2 rfl (by decide) v l.length (toks l) (by rfl) HO6.out
                ⟨w6.heap.size, 0, none⟩ 1 1 [.int .i64 1, .string ⟨bts1.toArray⟩] (by rfl) (by rfl) HC6.out (by simp [Value.oneCell'])
                (by decide) (by unfold maxLen; omega) (by omega) (by have := HX6.out.at_.blk.lt; simp; omega) (w6.heap.size + 1) (by simp) ?_; intro gg cap w7 hown7 hgrow hat hlt7; have HK7 := Lib.hid (kept_grown ((Kept.refl _ w6).alloc _) hgrow); have B7 := HX6.out.at_.blk.kept HK7.out hn6; have j7 := B7.cell 1 (v := v) rfl; have f7 := B7.free 1; have HP := Lib.hid (HX6.out.at_.pushed (k := 1) ((Kept.refl _ w6).alloc _) hown7 hgrow (by rintro k' e; rcases hat with e2 | e2; exact .inl (by rw [e2]; exact e); exact .inr (by have : gg = k' := (by injection e); simp; omega))); clear hown7 hgrow hat B7)
            | (go_simp; go_at_call 40; refine HSTR.out.mono ?_; rintro e w6 ⟨rfl, hb6⟩; have HX6 := Lib.hid (HSTEP.out w6 ⟨hb6.os, hb6.tape, hb6.output, hb6.size, hb6.block⟩); have d6 := HX6.out.at_.blk.cell 1 (v := v) rfl; have d7 := (HX6.out.at_.blk.alloc (.cells #[.int .i64 1, .string ⟨bts1.toArray⟩] 43)).cell 1 (v := v) rfl; have hn6 : v.ownBlock ≠ some b := (fun e => by have := (HX6.out.at_.own.lt b e).1; omega); have HO6 := Lib.hid (HX6.out.at_.own.alloc (.cells #[.int .i64 1, .string ⟨bts1.toArray⟩] 43)); have HC6 : Hid (∀ j u, [Value.int .i64 1, .string ⟨bts1.toArray⟩][j]? = some u → (w6.alloc (.cells #[.int .i64 1, .string ⟨bts1.toArray⟩] 43)).cell? ((⟨w6.heap.size, 0, none⟩ : Addr).add j) = some u) := cells_new _ #[_, _] _)))
        all_goals
          go_wp2_with fail
          refine bodyPost_end (results_none rfl _ _ _) rfl ?_
          exact ⟨rfl, _, HX6.out.trans HP.out⟩
    · obtain ⟨c, r, rfl, hc⟩ : ∃ c r, s1 = c :: r ∧ Wd.stops c = false := by
        cases s1 with
        | nil => exact absurd (.inl rfl) hstop
        | cons c r => exact ⟨c, r, rfl, by
            cases h : Wd.stops c with
            | false => rfl
            | true => exact absurd (.inr ⟨c, r, rfl, h⟩) hstop⟩
      rw [Wd.wordF.eq_def] at hr
      simp only [hc, Bool.false_eq_true, if_false] at hr
      by_cases hp : Wd.pre [92, 10] (c :: r) = true
      · rw [if_pos hp] at hr; cases hr
      rw [if_neg hp] at hr
      have hp' : Wd.pre [92, 10] (c :: r) = false := by simpa using hp
      rcases hpn : Wd.pieceN (c :: r) false with e | n
      · rw [hpn] at hr; cases hr
      rw [hpn] at hr
      have HRUN : Hid (Wd.wordF k (bts1 ++ (c :: r).take n) ((c :: r).drop n) = some (bts, s2)) := hr
      have hpl := pieceN_len hpn
      have hll : (c :: r).length < 1073741824 := by omega
      have hpc := pieceN_any (c :: r) false n (by simp) hll hpn
      have hcp := cutPrefix_any (c :: r) [92, 10]
      rw [hp', if_neg (by decide)] at hcp
      obtain ⟨x, hx, -, -, hcall⟩ := stops_any c wr
      have hx0 : x < 0 := hx.2 hc
      have es : ((⟨(c :: r).toArray⟩ : ByteArray) == ⟨#[]⟩) = false := str_nil _
      have is0 : ∀ h, (⟨(c :: r).toArray⟩ : ByteArray)[0]'h = c := fun _ => rfl
      have ext := extr_take (c :: r) n
      have exd := extract_from (c :: r) n
      have n3 : (0 : Int) ≤ (n : Int) := by omega
      have n4 : (n : Int) ≤ ((c :: r).length : Int) := by omega
      have n5 : n ≤ (c :: r).length := by omega
      have hS1 : 1 ≤ (c :: r).length := by simp
      have hSe : (c :: r).isEmpty = false := rfl
      have hw := writeS q q bts1 ((c :: r).take n) wr hbld (by rw [List.length_take]; omega) (by omega)
      have HSTEP : Hid (∀ w', Below q wr w' → LxIs w w' b (c :: r) l v v) := fun w' hb => HR.out.step hb hblt HV.out HQ.out
      have hlt2 : (bts1 ++ (c :: r).take n).length + ((c :: r).drop n).length ≤ s.length := by
        rw [List.length_append, List.length_take, List.length_drop]; omega
      have HW := Lib.hid hw
      clear hr hlx hbld hstop hp hp' hpn hc hx hw
      generalize (c :: r).drop n = S2 at *
      generalize (c :: r).take n = P at *
      generalize hS : (c :: r) = S at *
      clear hS
      go_wp2_with fail
      refine hcall.mono ?_
      rintro e w3 ⟨rfl, rfl⟩
      clear hcall
      go_wp2_with fail
      refine (hcp _).mono ?_
      rintro e w4 ⟨rfl, rfl⟩
      clear hcp
      go_wp2_with fail
      refine (hpc _).mono ?_
      rintro e w4 ⟨rfl, rfl⟩
      clear hpc
      go_wp2_with fail
      refine HW.out.mono ?_
      rintro e w5 ⟨rfl, hbld5, hb5⟩
      have hx5 := HSTEP.out w5 hb5
      have d0 : w5.cell? ⟨b, 0, none⟩ = some (.string ⟨S.toArray⟩) := hx5.at_.blk.cell 0 rfl
      have f0 := hx5.at_.blk.free 0
      have hset := hx5.at_.text S2
      have HX5 := Lib.hid (hx5.trans hset)
      have HB5 := Lib.hid (bld_set hbld5 hblt (.string ⟨S2.toArray⟩))
      have HQ5 : Hid (q < w5.heap.size) := by have := hb5.size; show _ < _; omega
      clear hx5 hset hbld5 hb5 HW
      go_wp2_with fail
      go_roundg k
      case measure => omega
      case rel => exact ⟨S2, _, by omega, HRUN.out, HX5.out, HB5.out, hlt2, by simpa [World.setCell] using HQ5.out⟩

end Go.Proofs.YtfoehfehnmhhmaaGreatDoor
