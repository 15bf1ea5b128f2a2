/-
  Texts of this seat put together: R19, R20, Mz, M10, RApp.
-/
import Derived.Test.YthdkbbkkijdhfaaGreatDoorH22
import Derived.Test.YthdkbbkkijdhfaaGreatDoorH34
import Derived.Test.YthdkbbkkijdhfaaGreatDoorH24
import Derived.Test.YthdkbbkkijdhfaaGreatDoorH28
import Derived.Test.YthdkbbkkijdhfaaGreatDoorH12
import Derived.BigRegion
import Derived.Test.YthdkbbkkijdhfaaGreatDoorH10
import Derived.Deep.Upon

/-
  The walk of the reference's Size. Condition: the tree lies in memory.
-/
namespace Go.Proofs.YthdkbbkkijdhfaaGreatDoor
open Go.RowKit Go.Shelf Go.Maps

/-- The sizes of all, summed. -/
def tot : List Rx.Nd → Nat
  | [] => 0
  | x :: r => x.size + tot r
theorem tot_append (a b : List Rx.Nd) : tot (a ++ b) = tot a + tot b := by
  induction a with
  | nil => simp [tot]
  | cons x r ih => simp only [List.cons_append, tot, ih]; omega
theorem tot_le (l : List Rx.Nd) : tot l ≤ 20000 * l.length := by
  induction l with
  | nil => simp [tot]
  | cons x r ih => have := size_le x; simp only [tot, List.length_cons]; omega
theorem sizes_tot (l : List Rx.Nd) : ∀ a, a ≤ 20000 → Rx.sizes l a = min 20000 (a + tot l) := by
  induction l with
  | nil => intro a h; simp only [Rx.sizes, tot]; omega
  | cons x r ih => intro a h; simp only [Rx.sizes, tot]; rw [ih _ (by omega)]; omega

/-- A node's size, of its kids' sum. -/
theorem View.size {t : Rx.Nd} {kind mn mx : Int} {h : Rx.Has} {l : List Rx.Nd} {mk : List Rx.Nd → Rx.Nd} (v : View t kind mn mx h l mk) : (kind = 6 → t.size = min 20000 (1 + tot l * max 1 (if mx < 0 then mn.toNat else mx.toNat)) ∧ 0 ≤ mn ∧ mn ≤ 255 ∧ -1 ≤ mx ∧ mx ≤ 255) ∧ (kind ≠ 6 → t.size = min 20000 (1 + tot l)) := by
  cases v with
  | empty => exact ⟨fun h => absurd h (by decide), fun _ => by simp [Rx.Nd.size, tot]⟩
  | set => exact ⟨fun h => absurd h (by decide), fun _ => by simp [Rx.Nd.size, tot]⟩
  | beg => exact ⟨fun h => absurd h (by decide), fun _ => by simp [Rx.Nd.size, tot]⟩
  | fin => exact ⟨fun h => absurd h (by decide), fun _ => by simp [Rx.Nd.size, tot]⟩
  | cat _ _ => exact ⟨fun h => absurd h (by decide), fun _ => by simp only [Rx.Nd.size]; rw [sizes_tot _ _ (by omega)]; omega⟩
  | alt _ _ => exact ⟨fun h => absurd h (by decide), fun _ => by simp only [Rx.Nd.size]; rw [sizes_tot _ _ (by omega)]; omega⟩
  | rep m most n hm =>
    refine ⟨fun _ => ⟨?_, by omega, by omega, by omega, by omega⟩, fun h => absurd rfl h⟩
    have := size_le n
    simp only [Rx.Nd.size, tot, Nat.add_zero, Int.toNat_natCast]
    rw [Nat.min_eq_right this, Nat.add_comm]

theorem View.kidMem {t : Rx.Nd} {kind mn mx : Int} {h : Rx.Has} {l : List Rx.Nd} {mk : List Rx.Nd → Rx.Nd} (v : View t kind mn mx h l mk) (h6 : kind = 6) : l.length = 1 := by
  cases v <;> simp_all

def SizeC (t : Rx.Nd) : Prop := ∀ (w : World) (M : Nat → Prop) (p : Nat), RtIn w M p t → Calls Tryz.prog 10 #[.pointer (some ⟨p, 0, none⟩)] w fun e w' => e = .returned (.int .i64 (t.size : Nat)) ∧ w' = w

set_option maxHeartbeats 6400000 in
set_option maxRecDepth 100000 in
theorem rsize_any : ∀ (N : Nat) (t : Rx.Nd), SizeOf.sizeOf t ≤ N → SizeC t := by
  intro N
  induction N using Nat.strongRecOn with
  | ind N ih =>
  intro t hN w M p hp
  obtain ⟨kind, mn, mx, hh, a, k, c, l, ps, Ms, mk, F, v⟩ := hp.view
  have c0 := F.hb.cell 0 (nd_kind _ _ _ _ _)
  have c1 := F.hb.cell 257 (nd_min _ _ _ _ _)
  have c2 := F.hb.cell 258 (nd_max _ _ _ _ _)
  have c3 := F.hb.cell 259 (nd_kids _ _ _ _ _)
  have HSZ := Lib.hid v.size
  have HLEN : Hid (kind = 6 → l.length = 1) := v.kidMem
  have hlb := F.hl
  have hpl := F.hpl
  have HF := Lib.hid F
  have HK : Hid (∀ i, i < l.length → Calls Tryz.prog 10 #[.pointer (some ⟨ps.getD i 0, 0, none⟩)] w fun e w' => e = .returned (.int .i64 ((l.getD i .empty).size : Nat)) ∧ w' = w) := fun i hi =>
    ih (SizeOf.sizeOf (l.getD i .empty)) (by have := v.kid i hi; omega) _ (Nat.le_refl _) w _ _ (F.hn i hi)
  obtain ⟨SZ, hSZ⟩ : ∃ n, t.size = n := ⟨_, rfl⟩
  rw [hSZ] at HSZ ⊢
  clear ih hN hp F v hSZ
  go_enter Tryz.func10, Tryz.ntmps10
  go_wp2_with fail
  go_loop [3, 4] (fun x3 x4 => ∃ i n : Nat, i ≤ l.length ∧ x4 = .int .i64 i ∧ x3 = .int .i64 (n + 1 : Nat) ∧ n ≤ 20000 * i ∧ Hid (tot (l.take i) = n)) (fun _ x4 => l.length - (intOf x4).toNat)
  case atStart => exact ⟨0, 0, Nat.zero_le _, rfl, rfl, Nat.le_refl _, rfl⟩
  case round =>
    obtain ⟨i, n, hi, rfl, rfl, hn, HT⟩ := hrel
    by_cases hlt : i < l.length
    · obtain rfl := HF.out.ha (by omega)
      have ck := (HF.out.hk (by omega)).2.2.cell i (by omega)
      have hcall := HK.out i hlt
      have hsl := size_le (l.getD i .empty)
      have HT2 : Hid (tot (l.take (i + 1)) = n + (l.getD i .empty).size) := by
        show _ = _
        rw [List.take_succ_eq_append_getElem hlt, tot_append, HT.out]
        simp [tot, List.getD_eq_getElem?_getD, List.getElem?_eq_getElem hlt]
      generalize (l.getD i .empty).size = z at *
      generalize ps.getD i 0 = q at *
      go_wp2_with fail
      refine hcall.mono ?_
      rintro e w5 ⟨rfl, rfl⟩
      clear hcall
      go_wp2_with fail
      refine ⟨⟨i + 1, n + z, by omega, by go_num, by go_num, by omega, HT2.out⟩, ?_⟩
      show l.length - ((i : Int) + 1).toNat < l.length - (i : Int).toNat
      omega
    · obtain rfl : i = l.length := by omega
      rw [List.take_of_length_le (Nat.le_refl _)] at HT
      by_cases h6 : kind = 6
      · obtain ⟨hs, m1, m2, m3, m4⟩ := HSZ.out.1 h6
        rw [HT.out] at hs
        have hn2 : n ≤ 20000 := by have := HLEN.out h6; rw [this] at hn; omega
        subst h6
        clear HSZ
        by_cases hx : mx < 0
        · rw [if_pos hx] at hs
          obtain ⟨K, rfl⟩ : ∃ K : Nat, mn = K := ⟨mn.toNat, by omega⟩
          rw [Int.toNat_natCast] at hs
          by_cases hK : (K : Int) < 1
          · obtain rfl : K = 0 := by omega
            have HS : Hid (SZ = min 20000 (1 + n)) := by show _ = _; rw [hs]; simp
            clear hs
            by_cases hbig : (20000 : Int) < 1 + (n : Int)
            · go_wp2_with fail
              go_ret
              exact ⟨ret_int (by have := HS.out; omega), rfl⟩
            · go_wp2_with fail
              go_ret
              exact ⟨ret_int (by have := HS.out; omega), rfl⟩
          · have hmax : max 1 K = K := by omega
            rw [hmax] at hs
            have hPb : n * K ≤ 20000 * 255 := Nat.mul_le_mul hn2 (by omega)
            obtain ⟨P, hP⟩ : ∃ P : Nat, n * K = P := ⟨_, rfl⟩
            have hPi : (n : Int) * (K : Int) = (P : Int) := by rw [← hP]; simp
            rw [hP] at hs hPb
            have HS := Lib.hid hs
            clear hs hP
            by_cases hbig : (20000 : Int) < 1 + (P : Int)
            · go_wp2_with fail
              go_ret
              exact ⟨ret_int (by have := HS.out; omega), rfl⟩
            · go_wp2_with fail
              go_ret
              exact ⟨ret_int (by have := HS.out; omega), rfl⟩
        · rw [if_neg hx] at hs
          obtain ⟨K, rfl⟩ : ∃ K : Nat, mx = K := ⟨mx.toNat, by omega⟩
          rw [Int.toNat_natCast] at hs
          clear c1
          by_cases hK : (K : Int) < 1
          · obtain rfl : K = 0 := by omega
            have HS : Hid (SZ = min 20000 (1 + n)) := by show _ = _; rw [hs]; simp
            clear hs
            by_cases hbig : (20000 : Int) < 1 + (n : Int)
            · go_wp2_with fail
              go_ret
              exact ⟨ret_int (by have := HS.out; omega), rfl⟩
            · go_wp2_with fail
              go_ret
              exact ⟨ret_int (by have := HS.out; omega), rfl⟩
          · have hmax : max 1 K = K := by omega
            rw [hmax] at hs
            have hPb : n * K ≤ 20000 * 255 := Nat.mul_le_mul hn2 (by omega)
            obtain ⟨P, hP⟩ : ∃ P : Nat, n * K = P := ⟨_, rfl⟩
            have hPi : (n : Int) * (K : Int) = (P : Int) := by rw [← hP]; simp
            rw [hP] at hs hPb
            have HS := Lib.hid hs
            clear hs hP
            by_cases hbig : (20000 : Int) < 1 + (P : Int)
            · go_wp2_with fail
              go_ret
              exact ⟨ret_int (by have := HS.out; omega), rfl⟩
            · go_wp2_with fail
              go_ret
              exact ⟨ret_int (by have := HS.out; omega), rfl⟩
      · have hs := HSZ.out.2 h6
        rw [HT.out] at hs
        have HS := Lib.hid hs
        clear hs HSZ
        by_cases hbig : (20000 : Int) < (n : Int) + 1
        · go_wp2_with fail
          go_ret
          exact ⟨ret_int (by have := HS.out; omega), rfl⟩
        · go_wp2_with fail
          go_ret
          exact ⟨ret_int (by have := HS.out; omega), rfl⟩

end Go.Proofs.YthdkbbkkijdhfaaGreatDoor

/-
  The walk of the reference's Parse. No condition but that the text is not endless.
-/
namespace Go.Proofs.YthdkbbkkijdhfaaGreatDoor
open Go.RowKit Go.Shelf Go.Maps

theorem rext_all : ∀ L, RAtomC L ∧ RBranchC L ∧ RBranchesC L := by
  intro L
  induction L using Nat.strongRecOn with
  | ind L ih =>
    have h1 : RAtomC L := ratom_any L fun L' h => (ih L' h).2.2
    have h2 := rbranch_any L h1
    exact ⟨h1, h2, rbranches_any L h2⟩
theorem rbas_all : ∀ L, RPlainC L ∧ RPiecesC L := by
  intro L
  induction L using Nat.strongRecOn with
  | ind L ih =>
    have h1 : RPlainC L := rplain_any L fun L' h => (ih L' h).2
    exact ⟨h1, rpieces_any L h1⟩

/-- What the reference's Parse hands back and leaves. -/
def RfParsePost (w : World) (s : Rx.Bytes) (ext : Bool) (e : Ending) (w' : World) : Prop :=
  ((∃ k : Int, k ≠ 0 ∧ e = .returned (.tuple #[.pointer none, .int .i64 k])) ∨ ∃ q t, e = .returned (.tuple #[.pointer (some ⟨q, 0, none⟩), .int .i64 0]) ∧ RtIn w' (fun b => w.heap.size ≤ b ∧ b < w'.heap.size) q t ∧ Rx.read s ext false = some t ∧ t.size ≤ 10000) ∧ Below w.heap.size w w'

theorem read_branches {s u : Rx.Bytes} {n : Rx.Nd} (h : branchesN false (3 * s.length + 4) s = some (n, u)) (hu : u = []) : Rx.read s true false = some n := by
  subst hu
  unfold branchesN at h
  unfold Rx.read
  simp only [if_true, h]
theorem read_basic {s u : Rx.Bytes} {n : Rx.Nd} (h : Rx.basic false (3 * s.length + 4) s = some (n, u)) (hu : u = []) : Rx.read s false false = some n := by
  subst hu
  unfold Rx.read
  simp only [Bool.false_eq_true, if_false, h]

set_option maxHeartbeats 6400000 in
set_option maxRecDepth 100000 in
theorem rfparse_any (s : Rx.Bytes) (ext : Bool) (w : World) (hl : s.length < 1073741824) :
    Calls Tryz.prog 9 #[.string ⟨s.toArray⟩, .bool ext, .bool false] w fun e w' => RfParsePost w s ext e w' := by
  have hr := Blk.new w #[.string ⟨s.toArray⟩, .int .i64 ((0 : Nat) : Int), .bool ext, .bool false, .bool false] 63
  have hk0 : Kept (fun _ => False) w (w.alloc (.cells #[.string ⟨s.toArray⟩, .int .i64 ((0 : Nat) : Int), .bool ext, .bool false, .bool false] 63)) := (Kept.refl _ _).alloc _
  have hs0 : (w.alloc (.cells #[.string ⟨s.toArray⟩, .int .i64 ((0 : Nat) : Int), .bool ext, .bool false, .bool false] 63)).heap.size = w.heap.size + 1 := by simp
  go_enter Tryz.func9, Tryz.ntmps9
  go_upto_if 15 with fail
  show Code.wp _ _ _ _ (w.alloc (.cells #[.string ⟨s.toArray⟩, .int .i64 ((0 : Nat) : Int), .bool ext, .bool false, .bool false] 63))
  generalize w.alloc (.cells #[.string ⟨s.toArray⟩, .int .i64 ((0 : Nat) : Int), .bool ext, .bool false, .bool false] 63) = w1 at *
  have hrf : RfAt w1 w.heap.size s 0 ext false false := hr
  clear hr
  go_cut [9, 15, 16, 17, 18, 19] (fun s9 _s15 _s16 _s17 _s18 _s19 wx => ∃ p a2 b2, s9 = .pointer (some ⟨p, 0, none⟩) ∧ GoR w1 wx w.heap.size s a2 ext b2 ∧ Hid (b2 = false → ∃ t, RtIn wx (fun b => w1.heap.size ≤ b ∧ b < wx.heap.size) p t ∧ (s.length ≤ a2 → Rx.read s ext false = some (strip t))))
  case first =>
    cases ext with
    | true =>
      have hc := (rext_all s.length).2.2 w.heap.size s 0 w1 hrf (Nat.zero_le _) hl (by omega)
      go_wp2_with fail
      refine hc.mono ?_
      rintro e w2 ⟨p, a2, b2, rfl, G, -, ht⟩
      have HT := Lib.hid ht
      clear ht hc
      go_wp2_with fail
      go_meet
      refine ⟨p, a2, b2, rfl, G, fun hb => ?_⟩
      obtain ⟨t, hn, hq⟩ := HT.out hb
      refine ⟨t, hn, fun hle => ?_⟩
      have h1 := hq (3 * s.length + 4) (by omega)
      rw [List.drop_zero] at h1
      exact read_branches h1 (List.drop_eq_nil_of_le hle)
    | false =>
      have hc := (rbas_all s.length).2 w.heap.size s 0 w1 hrf (Nat.zero_le _) hl (by omega)
      go_wp2_with fail
      refine hc.mono ?_
      rintro e w2 ⟨p, a2, b2, rfl, G, -, ht⟩
      have HT := Lib.hid ht
      clear ht hc
      go_wp2_with fail
      go_meet
      refine ⟨p, a2, b2, rfl, G, fun hb => ?_⟩
      obtain ⟨t, hn, hq⟩ := HT.out hb
      refine ⟨t, hn, fun hle => ?_⟩
      have h1 := hq (3 * s.length + 4) (by omega)
      rw [List.drop_zero] at h1
      exact read_basic h1 (List.drop_eq_nil_of_le hle)
  case rest =>
    obtain ⟨p, a2, b2, rfl, G, HT⟩ := hcut
    clear hrf
    have c1 := G.rd.c1
    have c4 := G.rd.c4
    have hle := G.le.1
    have HG := Lib.hid G
    have HK0 := Lib.hid hk0
    clear G hk0
    go_upto_region 6 with fail
    go_cut [20, 21, 22, 23, 24, 25, 26, 27, 28, 29, 30, 31, 32] (fun _s20 _s21 _s22 _s23 _s24 _s25 _s26 _s27 _s28 _s29 _s30 _s31 s32 wx => s32 = .bool (b2 || decide (a2 < s.length)) ∧ wx = wc)
    case first =>
      cases b2 with
      | true =>
        go_wp2_with fail
        go_meet
        exact ⟨rfl, rfl⟩
      | false =>
        go_wp2_with fail
        go_meet
        refine ⟨congrArg Value.bool ?_, rfl⟩
        rw [Bool.false_or]
    case rest =>
      obtain ⟨rfl, rfl⟩ := hcut
      obtain ⟨w2, hw2⟩ : ∃ w2, w2 = wc := ⟨_, rfl⟩
      subst hw2
      clear c1 c4
      cases hb : b2 || decide (a2 < s.length) with
      | true =>
        clear hb
        go_wp2_with fail
        go_ret2
        exact ⟨.inl ⟨20, by decide, rfl⟩, (HK0.out.trans' HG.out.kept fun k hk e => by omega).below⟩
      | false =>
        obtain ⟨hb1, hb2⟩ := Bool.or_eq_false_iff.1 hb
        have hge : s.length ≤ a2 := by have := of_decide_eq_false hb2; omega
        obtain ⟨t, hn, hrd⟩ := HT.out hb1
        have HRD := Lib.hid (hrd hge)
        have hc := bare_any (SizeOf.sizeOf t) t (Nat.le_refl _) _ _ _ hn
        clear hb hb1 hb2 hn hrd HT
        go_wp2_with fail
        refine hc.mono ?_
        rintro e w3 ⟨q, rfl, hn3, hk3⟩
        have hsz := rsize_any (SizeOf.sizeOf (strip t)) (strip t) (Nat.le_refl _) _ _ _ hn3
        have HN3 := Lib.hid hn3
        have HK3 := Lib.hid hk3
        clear hc hn3 hk3
        go_wp2_with fail
        refine hsz.mono ?_
        rintro e w4 ⟨rfl, rfl⟩
        clear hsz
        by_cases hbig : (10000 : Int) < ((strip t).size : Int)
        · go_wp2_with fail
          go_ret2
          exact ⟨.inl ⟨12, by decide, rfl⟩, ((HK0.out.trans' HG.out.kept fun k hk e => by omega).trans' HK3.out fun k hk e => by omega).below⟩
        · have HS : Hid ((strip t).size ≤ 10000) := by show _ ≤ _; omega
          go_wp2_with fail
          go_ret2
          have hbl : Below w.heap.size w w4 := ((HK0.out.trans' HG.out.kept fun k hk e => by omega).trans' HK3.out fun k hk e => by omega).below
          have := hbl.size
          have hk3s := HK3.out.size
          exact ⟨.inr ⟨q, strip t, rfl, HN3.out.mono fun b hb => by omega, HRD.out, HS.out⟩, hbl⟩

end Go.Proofs.YthdkbbkkijdhfaaGreatDoor

/-
  Where a literal stands, as plain functions: its states, and what they find. No program in sight.
  No condition.
-/
namespace Go.Proofs.YthdkbbkkijdhfaaGreatDoor.Mx
open Go

def hset (c : UInt8) : Has := Rx.folds false fun d => d == c
theorem hset_eq (c d : UInt8) : hset c d = (d == c) := by simp [hset, Rx.folds]
/-- The states of a literal. -/
def litP : Bytes → List St
  | [] => [⟨4, no, 0, 0⟩]
  | c :: r => litP r ++ [⟨0, hset c, r.length, 0⟩]
theorem litP_len (s : Bytes) : (litP s).length = s.length + 1 := by
  induction s with
  | nil => rfl
  | cons c r ih => simp [litP, ih]

theorem lay_one (c : UInt8) (dst : Nat) (L : List St) : lay (Rx.one false c) dst L = (L.length, L ++ [⟨0, hset c, dst, 0⟩]) := by
  show lay (.set (hset c)) dst L = _
  rw [lay]
theorem layCat_lit (s : Bytes) : layCat (s.map (Rx.one false)) 0 [⟨4, no, 0, 0⟩] = (s.length, litP s) := by
  induction s with
  | nil => rw [List.map_nil, layCat]; rfl
  | cons c r ih =>
    rw [List.map_cons, layCat, ih, lay_one, litP_len]
    rfl
theorem lay_lit (s : Bytes) : lay (Rx.joinN .cat (s.map (Rx.one false))) 0 [⟨4, no, 0, 0⟩] = (s.length, litP s) := by
  match s with
  | [] => rw [List.map_nil, Rx.joinN, lay]; rfl
  | [c] =>
    have := layCat_lit [c]
    rw [List.map_cons, List.map_nil, layCat, layCat] at this
    rw [List.map_cons, List.map_nil, Rx.joinN]
    exact this
  | c :: d :: r =>
    have := layCat_lit (c :: d :: r)
    rw [List.map_cons, List.map_cons] at this ⊢
    rw [Rx.joinN]
    · rw [lay]; exact this
    · simp
    · simp

theorem litP_pre (p t : Bytes) : ∃ X, litP (p ++ t) = litP t ++ X := by
  induction p with
  | nil => exact ⟨[], by simp⟩
  | cons c r ih =>
    obtain ⟨X, hX⟩ := ih
    exact ⟨X ++ [⟨0, hset c, (r ++ t).length, 0⟩], by rw [List.cons_append, litP, hX, List.append_assoc]⟩
theorem litP_get (p t : Bytes) : (litP (p ++ t)).getD t.length default = (match t with | [] => ⟨4, no, 0, 0⟩ | c :: r => ⟨0, hset c, r.length, 0⟩ : St) := by
  obtain ⟨X, hX⟩ := litP_pre p t
  rw [hX, List.getD_eq_getElem?_getD, List.getElem?_append_left (by rw [litP_len]; omega)]
  cases t with
  | nil => rfl
  | cons c r =>
    rw [litP, List.getElem?_append_right (by rw [litP_len]; simp)]
    simp [litP_len]

/-- A state that stays, put in alone. -/
theorem put_lone (P : List St) (x : Run) (n at_ size : Nat) (hs : stays (P.getD n default) = true) (hn : x.has.getD n 0 ≠ at_ + 1) : put P x n at_ size = ⟨x.l ++ [n], x.has.set n (at_ + 1)⟩ := by
  have ho : onto (P.getD n default) at_ size [] = [] := by
    simp [stays] at hs
    unfold onto
    simp [hs]
  have he : enter P at_ n x = ⟨x.l ++ [n], x.has.set n (at_ + 1)⟩ := by unfold enter; rw [if_pos hs]
  unfold put fuel
  rw [putF_new _ _ _ _ _ _ _ hn, ho, putF_nil, he]
  rfl

def Low (k : Nat) (h : List Nat) : Prop := ∀ a ∈ h, a ≤ k
theorem Low.get {k : Nat} {h : List Nat} (hl : Low k h) (n : Nat) : h.getD n 0 ≤ k := by
  rw [List.getD_eq_getElem?_getD]
  rcases Nat.lt_or_ge n h.length with hn | hn
  · rw [List.getElem?_eq_getElem hn]; exact hl _ (List.getElem_mem _)
  · rw [List.getElem?_eq_none hn]; exact Nat.zero_le _
theorem Low.set {k : Nat} {h : List Nat} (hl : Low k h) (n : Nat) : Low (k + 1) (h.set n (k + 1)) := by
  intro a ha
  rcases List.mem_or_eq_of_mem_set ha with h1 | h1
  · exact Nat.le_succ_of_le (hl a h1)
  · omega
theorem Low.succ {k : Nat} {h : List Nat} (hl : Low k h) : Low (k + 1) h := fun a ha => Nat.le_succ_of_le (hl a ha)

theorem run_nil (P : List St) (b : Bytes) (f at_ : Nat) (h : List Nat) (next : Run) (last : Option Nat) : run P b f at_ ⟨[], h⟩ next last = last := by
  cases f with
  | zero => rfl
  | succ f => rw [run, if_pos rfl]

theorem run_lit (s b : Bytes) : ∀ (t p : Bytes) (f at_ : Nat) (now next : Run) (last : Option Nat), s = p ++ t → at_ ≤ b.length → b.length < at_ + f → now.l = [t.length] → Low (at_ + 1) now.has → Low (at_ + 1) next.has →
    run (litP s) b f at_ now next last = if t.isPrefixOf (b.drop at_) then some (at_ + t.length) else last := by
  intro t
  induction t with
  | nil =>
    intro p f at_ now next last hs ha hf hn h1 h2
    obtain ⟨f, rfl⟩ : ∃ g, f = g + 1 := ⟨f - 1, by omega⟩
    have hg := litP_get p []
    rw [← hs] at hg
    have hr : round (litP s) b at_ now.l ⟨[], next.has⟩ last = (⟨[], next.has⟩, some at_) := by
      rw [hn, round_over _ _ _ _ _ _ _ (by rw [hg]), round]
    rw [run, if_neg (by rw [hn]; simp)]
    simp only [hr]
    rw [run_nil]
    simp
  | cons c r ih =>
    intro p f at_ now next last hs ha hf hn h1 h2
    obtain ⟨f, rfl⟩ : ∃ g, f = g + 1 := ⟨f - 1, by omega⟩
    have hg := litP_get p (c :: r)
    rw [← hs] at hg
    simp only at hg
    rw [run, if_neg (by rw [hn]; simp)]
    by_cases hl : at_ < b.length
    · have hd : b.drop at_ = b.getD at_ 0 :: b.drop (at_ + 1) := by
        rw [List.drop_eq_getElem_cons hl]
        simp [List.getD_eq_getElem?_getD, List.getElem?_eq_getElem hl]
      rw [hd, List.isPrefixOf]
      by_cases hc : b.getD at_ 0 = c
      · have hg2 := litP_get (p ++ [c]) r
        rw [List.append_assoc, List.singleton_append, ← hs] at hg2
        have hst : stays ((litP s).getD r.length default) = true := by
          rw [hg2]
          cases r <;> rfl
        have hr : round (litP s) b at_ now.l ⟨[], next.has⟩ last = (⟨[r.length], next.has.set r.length (at_ + 1 + 1)⟩, last) := by
          rw [hn, round_put _ _ _ _ _ _ _ (by rw [hg]; simp) (by rw [hg, decide_eq_true hl, Bool.true_and]; show hset c _ = true; rw [hset_eq, hc]; simp), hg]
          simp only
          rw [put_lone _ _ _ _ _ hst (by have := h2.get r.length; simp only; omega), round]
          rfl
        simp only [hr]
        rw [if_neg (by omega), ih (p ++ [c]) f (at_ + 1) ⟨[r.length], next.has.set r.length (at_ + 1 + 1)⟩ now last (by simp [hs]) (by omega) (by omega) rfl (h2.set _) h1.succ, hc]
        simp only [List.length_cons, beq_self_eq_true, Bool.true_and]
        rw [show at_ + 1 + r.length = at_ + (r.length + 1) by omega]
      · have hr : round (litP s) b at_ now.l ⟨[], next.has⟩ last = (⟨[], next.has⟩, last) := by
          rw [hn, round_no _ _ _ _ _ _ _ (by rw [hg]; simp) (by rw [hg, decide_eq_true hl, Bool.true_and]; show hset c _ = false; rw [hset_eq]; exact beq_eq_false_iff_ne.2 hc), round]
        simp only [hr]
        rw [if_neg (by omega), run_nil, if_neg]
        rw [beq_eq_false_iff_ne.2 (fun e => hc e.symm), Bool.false_and]
        decide
    · have hr : round (litP s) b at_ now.l ⟨[], next.has⟩ last = (⟨[], next.has⟩, last) := by
        rw [hn, round_no _ _ _ _ _ _ _ (by rw [hg]; simp) (by rw [decide_eq_false hl]; rfl), round]
      simp only [hr]
      rw [List.drop_eq_nil_of_le (by omega), run_nil]
      simp

theorem longest_lit (s b : Bytes) (at_ : Nat) (ha : at_ ≤ b.length) : longest (litP s) s.length b at_ = if s.isPrefixOf (b.drop at_) then some (at_ + s.length) else none := by
  have hz : Low (at_ + 1) (zero (litP s)).has := by
    intro a h
    have : a = 0 := by simpa [zero] using List.eq_of_mem_replicate h
    omega
  have hz0 : Low at_ (zero (litP s)).has := by
    intro a h
    have : a = 0 := by simpa [zero] using List.eq_of_mem_replicate h
    omega
  have hg := litP_get [] s
  rw [List.nil_append] at hg
  have hst : stays ((litP s).getD s.length default) = true := by
    rw [hg]
    cases s <;> rfl
  unfold longest
  rw [put_lone _ _ _ _ _ hst (by have := hz0.get s.length; omega)]
  exact run_lit s b s [] _ at_ _ _ none rfl ha (by omega) rfl (hz0.set _) hz

/-- A text stands at a place. -/
def stands (s b : Bytes) (a : Nat) : Bool := s.isPrefixOf (b.drop a)
theorem stands_take (s b : Bytes) (a : Nat) : stands s b a = decide ((b.drop a).take s.length = s) := by
  unfold stands
  rw [Bool.eq_iff_iff, List.isPrefixOf_iff_prefix, decide_eq_true_eq]
  constructor
  · rintro ⟨t, ht⟩
    rw [← ht]
    simp
  · intro h
    exact ⟨(b.drop a).drop s.length, by conv => lhs; lhs; rw [← h]
                                        rw [List.take_append_drop]⟩
theorem stands_le (s b : Bytes) (a : Nat) (ha : a ≤ b.length) (h : stands s b a = true) : a + s.length ≤ b.length := by
  unfold stands at h
  obtain ⟨t, ht⟩ := List.isPrefixOf_iff_prefix.1 h
  have := congrArg List.length ht
  simp at this
  omega

theorem lit_some (s b : Bytes) (f a : Nat) (ha : a ≤ b.length) (h : stands s b a = true) : findF (litP s) s.length b (f + 1) a = some (a, a + s.length) := by
  rw [findF, if_neg (by omega), longest_lit s b a ha]
  unfold stands at h
  rw [if_pos h]
theorem lit_step (s b : Bytes) (f a : Nat) (ha : a ≤ b.length) (h : stands s b a = false) : findF (litP s) s.length b (f + 1) a = findF (litP s) s.length b f (a + 1) := by
  rw [findF, if_neg (by omega), longest_lit s b a ha]
  unfold stands at h
  rw [h]
  rfl
theorem lit_none (s b : Bytes) : ∀ (f a : Nat), b.length < a + s.length → findF (litP s) s.length b f a = none := by
  intro f
  induction f with
  | zero => intro a _; rfl
  | succ f ih =>
    intro a h
    rcases Nat.lt_or_ge b.length a with hl | hl
    · rw [findF, if_pos hl]
    · have hs : stands s b a = false := by
        cases hx : stands s b a with
        | false => rfl
        | true => have := stands_le s b a hl hx; omega
      rw [lit_step s b f a hl hs]
      exact ih (a + 1) (by omega)

end Go.Proofs.YthdkbbkkijdhfaaGreatDoor.Mx

/-
  The walk of MatchLiteral. Conditions: the text is shorter than 2^30 bytes, the bytes lie in memory; the library's variables hold what they hold.
-/
namespace Go.Proofs.YthdkbbkkijdhfaaGreatDoor
open Go.RowKit Go.Shelf Go.Maps

theorem progOf_lit (s : Rx.Bytes) : progOf (litNd false s) = (s.length, Mx.litP s) := Mx.lay_lit s

theorem Bs.part {w : World} {bb bo : Nat} {b : Rx.Bytes} (h : Bs w (some ⟨bb, bo, none⟩) b) (a n : Nat) (hl : a + n ≤ b.length) : Bs w (some ⟨bb, bo + a, none⟩) ((b.drop a).take n) := by
  intro _
  refine ⟨bb, bo + a, rfl, fun i hi => ?_⟩
  have hi2 : i < n := by simp at hi; omega
  have := h.at (a + i) (by omega)
  rw [show bo + a + i = bo + (a + i) by omega, this]
  congr 3
  simp [List.getD_eq_getElem?_getD, hi2]

theorem run_empty (w : World) (p : Option Addr) (c : Nat) : (convert 22 9 (.slice p 0 c)).run Tryz.prog w = .ok (.string ⟨#[]⟩) w := run_str (Bs.nil w p) c

def fx (R : Option (Nat × Nat)) : Int := ((R.getD (0, 0)).1 : Nat)
def fy (R : Option (Nat × Nat)) : Int := ((R.getD (0, 0)).2 : Nat)
theorem findVal_eq (R : Option (Nat × Nat)) : findVal R = .tuple #[.int .i64 (fx R), .int .i64 (fy R), .bool R.isSome] := by cases R <;> rfl

set_option maxHeartbeats 3200000 in
set_option maxRecDepth 100000 in
theorem MatchLiteral_any (s b : Rx.Bytes) (bp : Option Addr) (bc : Nat) (from_ : Int) (w : World) (hg : Glo w) (h8 : 8 ≤ w.heap.size) (hl : s.length < 1073741824) (hlb : b.length < 1073741824) (hbs : Bs w bp b) (hbc : b.length ≤ bc) (hno : bp = none → bc = 0) :
    Calls Tryz.prog 4 #[.string ⟨s.toArray⟩, .slice bp b.length bc, .int .i64 from_] w fun e w' => e = .returned (.bool true) ∧ Below w.heap.size w w' := by
  have ha := awake16_any w hg h8
  have HG := Lib.hid hg
  have HBS := Lib.hid hbs
  have HNO := Lib.hid hno
  have hlit := fun w hg h8 => Literal_any s false w hg h8 hl
  have hpr := progOf_lit s
  have HPR := Lib.hid hpr
  clear hg hbs hno hpr
  go_enter Tryz.func4, Tryz.ntmps4
  go_wp2_with fail
  refine ha.mono ?_
  rintro e w1 ⟨rfl, b1⟩
  obtain ⟨g1, i1⟩ := HG.out.step h8 b1
  clear ha
  go_wp2_with fail
  refine (hlit w1 g1 i1).mono ?_
  rintro e w2 ⟨⟨r, rfl, hre⟩, b2⟩
  have B2 := Lib.hid (b1.trans (b2.mono b1.size))
  have HRE := Lib.hid hre
  clear hlit b1 b2 hre g1 i1
  by_cases hbig : 1000 < s.length ∨ 1000 < b.length
  · rcases hbig with hb | hb
    · have hb2 : (1000 : Int) < (s.length : Int) := by omega
      go_wp2_with fail
      all_goals go_ret
      all_goals exact ⟨rfl, B2.out⟩
    · have hb2 : (1000 : Int) < (b.length : Int) := by omega
      go_wp2_with fail
      all_goals go_ret
      all_goals exact ⟨rfl, B2.out⟩
  · have hb1 : ¬ (1000 : Int) < (s.length : Int) := by omega
    have hb2 : ¬ (1000 : Int) < (b.length : Int) := by omega
    have hnew := New_any _ r (litNd false s) w2 HRE.out (by rw [HPR.out]; simp only [Mx.litP_len]; omega)
    go_wp2_with fail
    refine hnew.mono ?_
    rintro e w3 ⟨⟨rfl, v, L, hpg, he⟩, b3⟩
    have B3 : Hid (Below w.heap.size w w3) := B2.out.trans (b3.mono B2.out.size)
    have hfind := find_ready w2.heap.size bc (litNd false s) from_ b bp w3 ⟨⟨v, L, hpg, he⟩, by rw [HPR.out]; simp only [Mx.litP_len]; omega⟩ (HBS.out.below B3.out (Nat.le_refl _)) (by omega)
    rw [HPR.out] at hfind
    simp only at hfind
    obtain ⟨R, hR⟩ : ∃ R, Mx.find (Mx.litP s) s.length b from_.toNat = R := ⟨_, rfl⟩
    rw [hR, findVal_eq] at hfind
    have HR := Lib.hid hR
    obtain ⟨X, hX⟩ : ∃ X, fx R = X := ⟨_, rfl⟩
    obtain ⟨Y, hY⟩ : ∃ Y, fy R = Y := ⟨_, rfl⟩
    obtain ⟨Z, hZ⟩ : ∃ Z, R.isSome = Z := ⟨_, rfl⟩
    rw [hX, hY, hZ] at hfind
    have HX := Lib.hid hX
    have HY := Lib.hid hY
    have HZ := Lib.hid hZ
    clear hR hpg he b3 hnew hX hY hZ
    go_wp2_with fail
    refine hfind.mono ?_
    rintro e w4 ⟨rfl, b4⟩
    have B4 : Hid (Below w.heap.size w w4) := B3.out.trans (b4.mono B3.out.size)
    clear hfind b4
    go_upto_if 52 with fail
    go_cut [13, 52] (fun s13 _ wx => s13 = .int .i64 (from_.toNat : Int) ∧ wx = w4)
    case first =>
      by_cases h0 : from_ < 0
      · have h1 : (from_.toNat : Int) = 0 := by omega
        go_wp2_with fail
        go_meet
        exact ⟨by rw [h1], rfl⟩
      · have h1 : (from_.toNat : Int) = from_ := by omega
        have H1 := Lib.hid h1
        clear h1
        go_wp2_with fail
        go_meet
        exact ⟨by rw [H1.out], rfl⟩
    case rest =>
      obtain ⟨rfl, rfl⟩ := hcut
      go_wp2_with fail
      go_loopw [13] (fun x13 wr => ∃ a f : Nat, x13 = .int .i64 a ∧ b.length < a + f ∧ Hid (Mx.findF (Mx.litP s) s.length b f a = R) ∧ Below w.heap.size w wr) (fun x13 _ => b.length + 1 - (intOf x13).toNat)
      case atStart => exact ⟨from_.toNat, b.length + 1, rfl, by omega, HR.out, B4.out⟩
      case round =>
        clear HR B4
        obtain ⟨a, f, rfl, hf, hq, hbw⟩ := hrel
        have HQ := Lib.hid hq
        have HBW := Lib.hid hbw
        clear hq
        by_cases hle : a + s.length ≤ b.length
        · obtain ⟨f, rfl⟩ : ∃ g, f = g + 1 := ⟨f - 1, by omega⟩
          have ha : a ≤ b.length := by omega
          cases hst : Mx.stands s b a with
          | true =>
            have HRS : Hid (R = some (a, a + s.length)) := by
              have h := HQ.out
              unfold Hid at h
              rw [Mx.lit_some s b f a ha hst] at h
              exact h.symm
            obtain rfl : X = (a : Int) := by rw [← HX.out, HRS.out]; rfl
            obtain rfl : Y = (a : Int) + (s.length : Int) := by rw [← HY.out, HRS.out]; simp [fy]
            obtain rfl : Z = true := by rw [← HZ.out, HRS.out]; rfl
            by_cases h0 : s = []
            · have hc0 := run_empty wr
              subst h0
              rw [List.length_nil] at hle
              clear hst hbw
              cases bp with
              | none =>
                have hz := HNO.out rfl
                have hb0 : b.length = 0 := by omega
                have ha0 : a = 0 := by omega
                subst ha0
                rw [hb0]
                clear hb1 hb2 hle hlb hbc hf ha hb0
                go_wp2_with fail
                all_goals go_ret
                all_goals exact ⟨rfl, HBW.out⟩
              | some ad =>
                go_wp2_with fail
                all_goals go_ret
                all_goals exact ⟨rfl, HBW.out⟩
            · have hs0 : 0 < s.length := List.length_pos_iff.2 h0
              have hbr := HBS.out.below hbw (Nat.le_refl _)
              obtain ⟨bb, bo, rfl, hbc'⟩ := hbr (by omega)
              have hpart := Bs.part (bb := bb) (bo := bo) hbr a s.length hle
              have hconv := run_str hpart (bc - a)
              rw [show ((b.drop a).take s.length).length = s.length by simp; omega] at hconv
              rw [Mx.stands_take, decide_eq_true_eq] at hst
              rw [hst] at hconv
              clear hbr hbc' hpart hbw hst h0
              have d1 : (0 : Int) ≤ (a : Int) := Int.natCast_nonneg _
              have d2 : (a : Int) + (s.length : Int) ≤ (b.length : Int) := by omega
              have d3 : ¬ bc = a := by omega
              go_wp2_with fail
              all_goals go_ret
              all_goals exact ⟨rfl, HBW.out⟩
          | false =>
            have HQ2 : Hid (Mx.findF (Mx.litP s) s.length b f (a + 1) = R) := by
              have h := HQ.out
              unfold Hid at h
              rwa [Mx.lit_step s b f a ha hst] at h
            have hs0 : 0 < s.length := by
              rcases Nat.eq_zero_or_pos s.length with h | h
              · rw [List.eq_nil_of_length_eq_zero h] at hst
                simp [Mx.stands] at hst
              · exact h
            have hbr := HBS.out.below hbw (Nat.le_refl _)
            obtain ⟨bb, bo, rfl, hbc'⟩ := hbr (by omega)
            have hpart := Bs.part (bb := bb) (bo := bo) hbr a s.length hle
            have hconv := run_str hpart (bc - a)
            rw [show ((b.drop a).take s.length).length = s.length by simp; omega] at hconv
            rw [Mx.stands_take, decide_eq_false_iff_not] at hst
            generalize (b.drop a).take s.length = u at *
            clear hbr hbc' hpart hbw
            have d1 : (0 : Int) ≤ (a : Int) := Int.natCast_nonneg _
            have d2 : (a : Int) + (s.length : Int) ≤ (b.length : Int) := by omega
            have d3 : ¬ bc = a := by omega
            have d4 : (u == s) = false := beq_eq_false_iff_ne.2 hst
            clear hst
            go_wp2_with fail
            refine ⟨⟨a + 1, f, by go_num, by omega, HQ2, HBW.out⟩, ?_⟩
            show b.length + 1 - ((a : Int) + 1).toNat < b.length + 1 - (a : Int).toNat
            omega
        · have HRS : Hid (R = none) := by
            have h := HQ.out
            unfold Hid at h
            rw [Mx.lit_none s b f a (by omega)] at h
            exact h.symm
          obtain rfl : X = 0 := by rw [← HX.out, HRS.out]; rfl
          obtain rfl : Y = 0 := by rw [← HY.out, HRS.out]; rfl
          obtain rfl : Z = false := by rw [← HZ.out, HRS.out]; rfl
          have d2 : ¬ (a : Int) ≤ (b.length : Int) - (s.length : Int) := by omega
          go_wp2_with fail
          all_goals go_ret
          all_goals exact ⟨rfl, HBW.out⟩

end Go.Proofs.YthdkbbkkijdhfaaGreatDoor

/-
  append of bytes onto a slice of one's own, whatever is appended lies where it may. Condition: the bytes are known, in memory.
-/
namespace Go.Proofs.YthdkbbkkijdhfaaGreatDoor
open Go.RowKit Go.Shelf Go.Maps

def byteV (c : UInt8) : Value := .int .u8 c.toNat
theorem info_byte : (Tryz.prog.info? 5).map (fun i => (i.zero, i.size, i.bytes)) = some (some (.int .u8 0), 1, 1) := by kernel_rfl

set_option maxRecDepth 100000 in
theorem append_bytes {ops : Array Oper} {rest : List Oper} {o : Oper} {a : Act} {w : World} {Q : Exit → Act → World → Prop} (hgd : o.guard = none) (s x : Operand)
    (ho : o.op = .call { callee := .builtin .append, args := #[s, x], argTypes := #[22, 22] }) (base : Nat) (v : Value) (n : Nat) (xs : List Value) (hs : a.eval s = v) (hown : w.ownsRow base 5 1 v n xs)
    (xp : Option Addr) (xb : Rx.Bytes) (c : Nat) (hx : a.eval x = .slice xp xb.length c) (hbs : Bs w xp xb) (h63 : n + xb.length ≤ 4294967296) (hbase : base ≤ w.heap.size)
    (h : ∀ v' w', w'.ownsRow base 5 1 v' (n + xb.length) (xs ++ xb.map byteV) → w.grownBy w' v.ownBlock → (v'.ownBlock = v.ownBlock ∨ v'.ownBlock = some w.heap.size) → wpList Tryz.prog ops Q rest (a.put o.dst v') w') : wpList Tryz.prog ops Q (o :: rest) a w := by
  obtain ⟨i0, hi, hz0, hz1, hz2⟩ := info_parts info_byte
  have own (ad : Addr) (hxp : xp = some ad) (hc : ∀ j u, (xb.map byteV)[j]? = some u → w.cell? (ad.add j) = some u) : wpList Tryz.prog ops Q (o :: rest) a w := by
    subst hxp
    exact wpList_append_own_at w hgd s x _ ho base 5 i0 (.int .u8 0) 1 1 Tryz.underlying22 hi hz0 hz1 hz2 rfl (by decide) v n xs hs hown ad xb.length c (xb.map byteV) hx (by simp) hc (by simp [byteV, Value.oneCell']) (by unfold maxLen; omega) (by omega) hbase fun v' w' h1 h2 _ h4 => h v' w' h1 h2 h4
  cases xb with
  | nil =>
    cases xp with
    | some ad => exact own ad rfl fun j u hu => by simp at hu
    | none =>
      have hsrc : Src Tryz.prog i0.size 22 (.slice none 0 c) 0 [] w := Src.ofNil w Tryz.underlying22 c
      have hle : ∃ bb sl sc, v = .slice bb sl sc ∧ sl ≤ sc := by
        rcases hown.2 with ⟨h1, -⟩ | ⟨g, cap, cur, e, -, -, hc, -⟩
        · exact ⟨_, _, _, h1, Nat.le_refl _⟩
        · exact ⟨_, _, _, e, hc⟩
      obtain ⟨bb, sl, sc, rfl, hle⟩ := hle
      have hr := run_append_nothing (P := Tryz.prog) w 22 22 o.type 5 i0 Tryz.underlying22 hi bb sl sc hle (.slice none 0 c) hsrc
      refine wpList_plain hgd fun K hK => ?_
      unfold Oper.wp execOp
      have hx' : a.eval x = .slice none 0 c := hx
      simp only [ho, resolve, invoke, builtin, Sem.run_bind, Sem.run_pure, Result.andThen_ok, List.map_toArray, List.map_cons, List.map_nil, hs, hx', hr]
      exact hK _ _ (h _ _ (by simpa using hown) ⟨rfl, rfl, rfl, Nat.le_refl _, fun _ _ _ => rfl⟩ (.inl rfl))
  | cons z r =>
    obtain ⟨bb, bo, hp, hc⟩ := hbs (by simp)
    refine own _ hp fun j u hu => ?_
    rw [List.getElem?_map] at hu
    have hj : j < (z :: r).length := by
      rcases Nat.lt_or_ge j (z :: r).length with h1 | h1
      · exact h1
      · rw [List.getElem?_eq_none h1] at hu; cases hu
    rw [List.getElem?_eq_getElem hj] at hu
    simp only [Option.map_some, Option.some.injEq] at hu
    have := hc j hj
    rw [show ((⟨bb, bo, none⟩ : Addr).add j) = ⟨bb, bo + j, none⟩ by simp only [Addr.add]; split <;> simp_all, this, ← hu]
    simp [byteV, List.getD_eq_getElem?_getD, List.getElem?_eq_getElem hj]

/-- Bytes that lie in a row of one's own. -/
theorem bs_own {w : World} {base : Nat} {v : Value} {b : Rx.Bytes} {n : Nat} (h : w.ownsRow base 5 1 v n (b.map byteV)) (hn : n = b.length) : ∃ p c, v = .slice p b.length c ∧ Bs w p b := by
  subst hn
  rcases h.2 with ⟨h1, h2⟩ | ⟨g, cap, cur, e, -⟩
  · have : b = [] := List.length_eq_zero_iff.1 h2
    subst this
    exact ⟨none, 0, h1, Bs.nil _ _⟩
  · refine ⟨_, _, e, fun _ => ⟨g, 0, rfl, fun i hi => ?_⟩⟩
    have := h.cells (g := g) (by rw [e]; rfl) i (byteV (b.getD i 0)) (by rw [List.getElem?_map, List.getElem?_eq_getElem hi]; simp [List.getD_eq_getElem?_getD, List.getElem?_eq_getElem hi])
    rw [show ((⟨g, 0, none⟩ : Addr).add i) = ⟨g, 0 + i, none⟩ by simp only [Addr.add]; split <;> simp_all] at this
    exact this

end Go.Proofs.YthdkbbkkijdhfaaGreatDoor
