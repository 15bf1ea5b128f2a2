/-
  Texts of this seat put together: W22, W23, W24, Open, Open2, R1.
-/
import Derived.Test.YthdkbbkkijdhfaaGreatDoorH12
import Derived.Test.YthdkbbkkijdhfaaGreatDoorH1
import Derived.Test.YthdkbbkkijdhfaaGreatDoorCards
import Derived.Test.YthdkbbkkijdhfaaGreatDoorTie
import Derived.ProofKit
import Derived.OpenShut
import Derived.Lay
import Derived.MakeChecks
import Derived.Stop.LaidErr
import Derived.Deep.SlicePairs
import Derived.Deep.Strs
import Derived.Deep.DeepHandedRow
import Derived.Deep.DeepWitnessRowRef
import Derived.ChangeMaps5
import Derived.RowKit
import Derived.BigRegion

/-
  The walk of told. Conditions: the node lies in memory, and what it is told as is no longer than memory allows; the library's variables hold what they hold.
-/
namespace Go.Proofs.YthdkbbkkijdhfaaGreatDoor
open Go.RowKit Go.Shelf Go.Maps Go.Sort

/-- told's contract. -/
def ToldC (n : Rx.Nd) (p : Nat) (w : World) : Prop :=
  Calls Tryz.prog 41 #[.pointer (some ⟨p, 0, none⟩)] w fun e w' => e = .returned (.string ⟨n.told.toArray⟩) ∧ Below w.heap.size w w'

theorem told_empty (p : Nat) (w : World) (hb : Blk w p (ndCells 0 noHas 0 0 (.slice none 0 0)) 87) : ToldC .empty p w := by
  have c0 := hb.cell 0 (nd_kind _ _ _ _ _)
  have e : Rx.Nd.empty.told = [40, 41] := by simp [Rx.Nd.told]
  unfold ToldC
  rw [e]
  go_enter Tryz.func41, Tryz.ntmps41
  go_wp2_with fail
  go_ret
  exact ⟨rfl, Below.refl _ _⟩
theorem told_beg (p : Nat) (w : World) (hb : Blk w p (ndCells 2 noHas 0 0 (.slice none 0 0)) 87) : ToldC .beg p w := by
  have c0 := hb.cell 0 (nd_kind _ _ _ _ _)
  have e : Rx.Nd.beg.told = [94] := by simp [Rx.Nd.told]
  unfold ToldC
  rw [e]
  go_enter Tryz.func41, Tryz.ntmps41
  go_wp2_with fail
  go_ret
  exact ⟨rfl, Below.refl _ _⟩
theorem told_fin (p : Nat) (w : World) (hb : Blk w p (ndCells 3 noHas 0 0 (.slice none 0 0)) 87) : ToldC .fin p w := by
  have c0 := hb.cell 0 (nd_kind _ _ _ _ _)
  have e : Rx.Nd.fin.told = [36] := by simp [Rx.Nd.told]
  unfold ToldC
  rw [e]
  go_enter Tryz.func41, Tryz.ntmps41
  go_wp2_with fail
  go_ret
  exact ⟨rfl, Below.refl _ _⟩
theorem told_set (p : Nat) (h : Rx.Has) (w : World) (hb : Blk w p (setCells h) 87) (hg : Glo w) (h8 : 8 ≤ w.heap.size) : ToldC (.set h) p w := by
  have c0 := hb.cell 0 (nd_kind _ _ _ _ _)
  have e : (Rx.Nd.set h).told = Rx.ranges h := by simp [Rx.Nd.told]
  have hr := ranges_any p 1 0 0 _ h w hb hg h8
  unfold ToldC
  rw [e]
  go_enter Tryz.func41, Tryz.ntmps41
  go_wp2_with fail
  refine hr.mono ?_
  rintro e w' ⟨rfl, hb'⟩
  go_wp2_with fail
  go_ret
  exact ⟨rfl, hb'⟩

theorem digits10_len : ∀ c : Nat, c < 256 → (Rx.digitsF 10 20 c).length ≤ 3 := by decide +kernel

set_option maxHeartbeats 3200000 in
set_option maxRecDepth 100000 in
theorem told_rep (p k q m : Nat) (most : Int) (n : Rx.Nd) (w : World) (hb : Blk w p (ndCells 6 noHas m most (.slice (some ⟨k, 0, none⟩) 1 1)) 87) (hps : Ptrs w k [q]) (hm : m ≤ 255 ∧ -1 ≤ most ∧ most ≤ 255)
    (hg : Glo w) (h8 : 8 ≤ w.heap.size) (hn : ∀ w', Below w.heap.size w w' → ToldC n q w') (hl : n.told.length ≤ 140737488355000) : ToldC (.rep m most n) p w := by
  have c0 := hb.cell 0 (nd_kind _ _ _ _ _)
  have c2 := hb.cell 258 (nd_max _ _ _ _ _)
  have cq : w.cell? ⟨k, 0, none⟩ = some (.pointer (some ⟨q, 0, none⟩)) := hps 0 (by simp)
  have e : (Rx.Nd.rep m most n).told = n.told ++ 123 :: Rx.digitsF 10 20 m ++ 44 :: (if 0 ≤ most then Rx.digitsF 10 20 most.toNat else []) ++ [125] := by simp [Rx.Nd.told]
  have hml := digits10_len m (by omega)
  have HG := Lib.hid hg
  have HN := Lib.hid hn
  have HB := Lib.hid hb
  obtain ⟨tm, hT⟩ : ∃ tm : Rx.Bytes, (if 0 ≤ most then Rx.digitsF 10 20 most.toNat else []) = tm := ⟨_, rfl⟩
  rw [hT] at e
  have htl : tm.length ≤ 3 := by
    rw [← hT]
    split
    · exact digits10_len _ (by omega)
    · simp
  have HT := Lib.hid hT
  unfold ToldC
  rw [e]
  clear hps hg hn e hb hT
  go_enter Tryz.func41, Tryz.ntmps41
  go_upto_if 28 with fail
  go_cut [3, 28, 29, 30, 31, 32, 33] (fun s3 _ _ _ _ _ _ wx => s3 = .string ⟨tm.toArray⟩ ∧ Below w.heap.size w wx)
  case first =>
    by_cases h0 : 0 ≤ most
    · obtain ⟨mm, rfl⟩ : ∃ mm : Nat, most = mm := ⟨most.toNat, by omega⟩
      have hd := digits10_any mm (by omega) w HG.out
      have HT2 : Hid (Rx.digitsF 10 20 mm = tm) := by show _ = _; rw [← HT.out, if_pos h0]; rfl
      go_wp2_with fail
      refine hd.mono ?_
      rintro e w' ⟨rfl, hb'⟩
      go_wp2_with fail
      go_meet
      exact ⟨by rw [HT2.out], hb'⟩
    · have HT2 : Hid ([] = tm) := by show _ = _; rw [← HT.out, if_neg h0]
      go_wp2_with fail
      go_meet
      exact ⟨by rw [← HT2.out], Below.refl _ _⟩
  case rest =>
    obtain ⟨rfl, hbw⟩ := hcut
    have hplt := HB.out.lt
    have hklt : k < w.heap.size := World.block_lt_of_cell? _ _ cq
    have hsz := hbw.size
    have hb' := HB.out.keep hbw hplt
    have c1 := cell_regrown (hb'.cell 257 (nd_min _ _ _ _ _))
    have c3 := cell_regrown (hb'.cell 259 (nd_kids _ _ _ _ _))
    have ck : wc.cell? ⟨k, 0, none⟩ = some (.pointer (some ⟨q, 0, none⟩)) := by rw [hbw.cell (p := ⟨k, 0, none⟩) hklt]; exact cq
    have ck2 := cell_regrown ck
    have hpa : ∀ d os, Calls Tryz.prog 41 #[.pointer (some ⟨q, 0, none⟩)] (grow (redrawn wc d) os) fun e w' => e = .returned (.string ⟨n.told.toArray⟩) ∧ ∃ p : Regrown, w' = grow (redrawn wc p.d) p.os := fun d os =>
      Calls.regrown_of (HN.out _ (hbw.trans ((below_regrown wc d os).mono hsz)))
    have hpb : ∀ d os, Calls Tryz.prog 24 #[.int .i64 m, .int .i64 10] (grow (redrawn wc d) os) fun e w' => e = .returned (.string ⟨(Rx.digitsF 10 20 m).toArray⟩) ∧ ∃ p : Regrown, w' = grow (redrawn wc p.d) p.os := fun d os =>
      Calls.regrown_of (digits10_any m (by omega) _ (HG.out.kept (Kept.of_below (S := fun _ => False) (hbw.trans ((below_regrown wc d os).mono hsz))) (fun _ h => h.elim) h8))
    clear c0 c2 cq ck hb'
    generalize htn : n.told = tn at *
    generalize htd : Rx.digitsF 10 20 m = tdm at *
    have HTN := Lib.hid htn
    have HTD := Lib.hid htd
    clear htn htd
    have e1 : (⟨tn.toArray⟩ : ByteArray) ++ ⟨#[123]⟩ = ⟨(tn ++ [123]).toArray⟩ := by apply ByteArray.ext; simp
    have e2 : (⟨(tn ++ [123]).toArray⟩ : ByteArray) ++ ⟨tdm.toArray⟩ = ⟨(tn ++ [123] ++ tdm).toArray⟩ := by apply ByteArray.ext; simp
    have e3 : (⟨(tn ++ [123] ++ tdm).toArray⟩ : ByteArray) ++ ⟨#[44]⟩ = ⟨(tn ++ [123] ++ tdm ++ [44]).toArray⟩ := by apply ByteArray.ext; simp
    have e4 : (⟨(tn ++ [123] ++ tdm ++ [44]).toArray⟩ : ByteArray) ++ ⟨tm.toArray⟩ = ⟨(tn ++ [123] ++ tdm ++ [44] ++ tm).toArray⟩ := by apply ByteArray.ext; simp
    have e5 : (⟨(tn ++ [123] ++ tdm ++ [44] ++ tm).toArray⟩ : ByteArray) ++ ⟨#[125]⟩ = ⟨(tn ++ [123] ++ tdm ++ [44] ++ tm ++ [125]).toArray⟩ := by apply ByteArray.ext; simp
    have l1 : (9223372036854775807 < tn.length + 1) = False := by simp; omega
    have l2 : (9223372036854775807 < tn.length + 1 + tdm.length) = False := by simp; omega
    have l3 : (9223372036854775807 < tn.length + 1 + tdm.length + 1) = False := by simp; omega
    have l4 : (9223372036854775807 < tn.length + 1 + tdm.length + 1 + tm.length) = False := by simp; omega
    have l5 : (9223372036854775807 < tn.length + 1 + tdm.length + 1 + tm.length + 1) = False := by simp; omega
    have l2' : (9223372036854775807 < tn.length + (tdm.length + 1)) = False := by simp; omega
    have l3' : (9223372036854775807 < tn.length + (tdm.length + 1) + 1) = False := by simp; omega
    have l4' : (9223372036854775807 < tn.length + (tdm.length + 1) + 1 + tm.length) = False := by simp; omega
    have l5' : (9223372036854775807 < tn.length + (tdm.length + 1) + 1 + tm.length + 1) = False := by simp; omega
    go_wp2_with fail
    refine wp_region_quiet_below (by kernel_rfl) (by kernel_rfl) ?_
    repeat (quiet_step (first | with_reducible exact hpa _ _ | with_reducible exact hpb _ _))
    refine wpQuiet_nil ?_
    intro _ hw'
    obtain ⟨⟨dq, osq⟩, hw''⟩ := hw'
    subst hw''
    have hbb := hbw.trans ((below_regrown wc dq osq).mono hsz)
    clear hpa hpb c1 c3 ck2
    generalize grow (redrawn wc dq) osq = w2 at *
    clear e1 e2 e3 e4 e5
    go_wp2_with fail
    go_ret
    refine ⟨ret_str ?_, hbb⟩
    rw [HTN.out, HTD.out]
    apply ByteArray.ext
    simp

theorem tolds_len (l : List Rx.Nd) : (Rx.tolds l).length = l.length := by
  induction l with
  | nil => rfl
  | cons x r ih => simp [Rx.tolds, ih]
theorem tolds_get (l : List Rx.Nd) : ∀ i, i < l.length → (l.getD i .empty).told = (Rx.tolds l).getD i [] := by
  induction l with
  | nil => intro i hi; simp at hi
  | cons x r ih =>
    intro i hi
    cases i with
    | zero => rfl
    | succ i => simp only [Rx.tolds, List.getD_cons_succ]; exact ih i (by simpa using hi)

set_option maxHeartbeats 3200000 in
set_option maxRecDepth 100000 in
theorem told_list (p k c : Nat) (kind : Int) (mk : List Rx.Nd → Rx.Nd) (hk : Kind2 kind mk) (l : List Rx.Nd) (ps : List Nat) (w : World) (hb : Blk w p (ndCells kind noHas 0 0 (.slice (some ⟨k, 0, none⟩) l.length c)) 87)
    (hc : l.length ≤ c ∧ l.length ≤ 1073741824) (hpl : ps.length = l.length) (hps : Ptrs w k ps)
    (hn : ∀ i, i < l.length → ∀ w', Below w.heap.size w w' → ToldC (l.getD i .empty) (ps.getD i 0) w') (hl : (mk l).told.length ≤ 140737488355000) : ToldC (mk l) p w := by
  obtain ⟨sep, hsep, hse, hk2⟩ : ∃ sep : Rx.Bytes, (mk l).told = 40 :: Rx.sepBy sep (Rx.tolds l) ++ [41] ∧ sep.length ≤ 1 ∧ ((kind = 4 ∧ sep = []) ∨ (kind = 5 ∧ sep = [124])) := by
    cases hk with
    | cat => exact ⟨[], by simp [Rx.Nd.told], by simp, .inl ⟨rfl, rfl⟩⟩
    | alt => exact ⟨[124], by simp [Rx.Nd.told], by simp, .inr ⟨rfl, rfl⟩⟩
  have c0 := hb.cell 0 (nd_kind _ _ _ _ _)
  have c3 := hb.cell 259 (nd_kids _ _ _ _ _)
  have hpw := hb.lt
  have HB := Lib.hid hb
  have HPS := Lib.hid hps
  have HN := Lib.hid hn
  obtain ⟨i0, hi, hz0, hz1, hz2⟩ := info_parts info_str
  unfold ToldC
  rw [hsep]
  rw [hsep] at hl
  have htl := tolds_len l
  have HTG := Lib.hid (tolds_get l)
  clear hb hps hn hsep
  generalize Rx.tolds l = T at *
  have I : StrsAt w w.heap.size (.slice none 0 0) (T.take 0) ∧ Below w.heap.size w w := ⟨StrsAt.nil _ _, Below.refl _ _⟩
  have h0 : ¬ kind = 0 := by omega
  have h1 : ¬ kind = 1 := by omega
  have h2 : ¬ kind = 2 := by omega
  have h3 : ¬ kind = 3 := by omega
  have h6 : ¬ kind = 6 := by omega
  have HK2 := Lib.hid hk2
  have HSE := Lib.hid hse
  clear hk2 hse hk
  have g0 : (kind == 0) = false := by simpa using h0
  have g1 : (kind == 1) = false := by simpa using h1
  have g2 : (kind == 2) = false := by simpa using h2
  have g3 : (kind == 3) = false := by simpa using h3
  have g6 : (kind == 6) = false := by simpa using h6
  go_enter Tryz.func41, Tryz.ntmps41
  go_wp2_with fail
  try simp only [g0, g1, g2, g3, g6]
  go_loopw [4, 6, 57] (fun x4 _x6 x57 wr => ∃ i : Nat, i ≤ l.length ∧ x57 = .int .i64 i ∧ StrsAt wr w.heap.size x4 (T.take i) ∧ Below w.heap.size w wr) (fun _ _ x57 _ => l.length - (intOf x57).toNat)
  case atStart => exact ⟨0, Nat.zero_le _, rfl, I⟩
  case round =>
    clear I
    obtain ⟨i, hi', rfl, hst, hbw⟩ := hrel
    by_cases hlt : i < l.length
    · have cq : wr.cell? ⟨k, i, none⟩ = some (.pointer (some ⟨ps.getD i 0, 0, none⟩)) := by
        have := HPS.out i (by omega)
        rw [hbw.cell (p := ⟨k, i, none⟩) (World.block_lt_of_cell? _ _ this)]
        exact this
      have hcall := HN.out i hlt wr hbw
      have hT := HTG.out i hlt
      unfold ToldC at hcall
      rw [hT] at hcall
      have HTK : Hid (T.take (i + 1) = T.take i ++ [T.getD i []]) := by
        show _ = _
        rw [List.take_succ_eq_append_getElem (by omega)]
        simp [List.getD_eq_getElem?_getD, List.getElem?_eq_getElem (show i < T.length by omega)]
      generalize T.getD i [] = tx at *
      generalize ps.getD i 0 = q at *
      have HST := Lib.hid hst
      have HBW := Lib.hid hbw
      clear hT hst hbw
      go_wp2_with fail
      refine hcall.mono ?_
      rintro e w3 ⟨rfl, hb3⟩
      have hst3 := HST.out.kept (Kept.of_below (S := fun _ => False) hb3) (fun _ _ h => h)
      have hszr := HBW.out.size
      have HB3 : Hid (Below w.heap.size w w3) := HBW.out.trans (hb3.mono hszr)
      have hsz3 := HB3.out.size
      have hown := hst3.own
      have hlen : (T.take i).length = i := by rw [List.length_take]; omega
      have HOB : Hid (∀ k, u4.ownBlock = some k → w.heap.size ≤ k) := fun k e => (hown.lt k e).1
      clear hst3 hb3 hcall cq
      generalize T.take i = Ti at *
      go_wp2_with (at_builtin; refine wpList_append_own_at _ rfl _ _ 100 rfl w.heap.size 9 i0 (.string ⟨#[]⟩) 1 16 Tryz.underlying100 hi hz0 hz1 hz2 rfl (by decide) _ _ _ rfl (hown.alloc _) ⟨w3.heap.size, 0, none⟩ 1 1 [strV tx] rfl rfl (cell_one_new _ _ _) (by simp [strV, Value.oneCell']) (by unfold maxLen; omega) (by omega) (by simp; omega) ?_; intro v' w5 hown' hgrow _ hv')
      have hgrow : (w3.alloc (.cells #[strV tx] 9)).grownBy w5 u4.ownBlock := hgrow
      have hbel5 : Below w.heap.size w w5 := ((Kept.of_below (S := fun _ => False) HB3.out).pushed hgrow HOB.out).below
      refine ⟨⟨i + 1, by omega, by go_num, ?_, hbel5⟩, ?_⟩
      · rw [HTK.out]
        exact ⟨fun e => by simp at e, by simpa using hown'⟩
      · show l.length - ((i : Int) + 1).toNat < l.length - (i : Int).toNat
        omega
    · obtain rfl : i = l.length := by omega
      rw [List.take_of_length_le (by omega)] at hst
      have c0' : wr.cell? ⟨p, 0, none⟩ = some (.int .i64 kind) := by rw [hbw.cell (p := ⟨p, 0, none⟩) hpw]; exact c0
      have HST := Lib.hid hst
      have HBW := Lib.hid hbw
      clear hst hbw c0
      go_upto_if 71 with fail
      go_cut [7, 68, 69, 70, 71] (fun s7 _ _ _ _ wx => s7 = .string ⟨sep.toArray⟩ ∧ wx = wr)
      case first =>
        rcases HK2.out with ⟨rfl, rfl⟩ | ⟨rfl, rfl⟩
        · go_wp2_with fail
          go_meet
          exact ⟨rfl, rfl⟩
        · go_wp2_with fail
          go_meet
          exact ⟨rfl, rfl⟩
      case rest =>
        obtain ⟨rfl, rfl⟩ := hcut
        have hl2 : (Rx.sepBy sep T).length ≤ 140737488355000 := by simp at hl; omega
        have hj := joinS_any sep _ T w.heap.size _ HST.out (by omega) (by omega)
        generalize hTX : Rx.sepBy sep T = tx at *
        have HTX := Lib.hid hTX
        clear hTX
        go_wp2_with fail
        refine hj.mono ?_
        rintro e w3 ⟨rfl, hb3⟩
        go_wp2_with fail
        go_ret
        refine ⟨ret_str ?_, HBW.out.trans (hb3.mono HBW.out.size)⟩
        rw [HTX.out]
        apply ByteArray.ext
        simp

end Go.Proofs.YthdkbbkkijdhfaaGreatDoor

/-
  told, String, the law's told: whole. Conditions: what is told lies in memory; the library's variables hold what they hold.
-/
namespace Go.Proofs.YthdkbbkkijdhfaaGreatDoor
open Go.RowKit Go.Shelf Go.Maps

theorem digitsF_len (b : Nat) : ∀ f n, (Rx.digitsF b f n).length ≤ f := by
  intro f
  induction f with
  | zero => intro n; simp [Rx.digitsF]
  | succ f ih =>
    intro n
    unfold Rx.digitsF
    have := ih (n / b)
    simp only [List.length_append, List.length_cons, List.length_nil]
    split
    · simp
    · omega

theorem ranges_len (h : Rx.Has) : (Rx.ranges h).length ≤ 1600 := by
  unfold Rx.ranges
  have h1 := sepBy_len [44] 5 (Rx.rangesF h 257 0) (rangesF_short h 257 0)
  have h2 := rangesF_count h 257 0
  have h3 : (Rx.rangesF h 257 0).length * (5 + ([44] : Rx.Bytes).length) ≤ 257 * 6 := Nat.mul_le_mul h2 (by decide)
  simp only [List.length_append, List.length_cons, List.length_nil]
  omega

theorem sepBy_sum (t : Rx.Bytes) (ht : t.length ≤ 1) : ∀ l : List Rx.Bytes, (Rx.sepBy t l).length ≤ (l.map fun x => x.length + 1).sum
  | [] => by simp [Rx.sepBy]
  | [x] => by simp [Rx.sepBy]
  | x :: y :: r => by
    have ih := sepBy_sum t ht (y :: r)
    simp only [Rx.sepBy, List.length_append, List.map_cons, List.sum_cons] at ih ⊢
    omega

mutual
theorem told_le : (n : Rx.Nd) → n.size < 20000 → n.told.length + 1 ≤ 2000 * n.size
  | .empty, _ => by simp [Rx.Nd.told, Rx.Nd.size]
  | .beg, _ => by simp [Rx.Nd.told, Rx.Nd.size]
  | .fin, _ => by simp [Rx.Nd.told, Rx.Nd.size]
  | .set h, _ => by
    have := ranges_len h
    simp only [Rx.Nd.told, Rx.Nd.size]
    omega
  | .rep m most k, hs => by
    simp only [Rx.Nd.size] at hs ⊢
    have hmul : k.size ≤ k.size * max 1 (if most < 0 then m else most.toNat) := Nat.le_mul_of_pos_right _ (by omega)
    have hk20 := size_le k
    rw [Nat.min_eq_right hk20] at hs ⊢
    have hk := told_le k (by omega)
    have h1 := digitsF_len 10 20 m
    have h2 := digitsF_len 10 20 most.toNat
    have h3 : (if 0 ≤ most then Rx.digitsF 10 20 most.toNat else []).length ≤ 20 := by
      split
      · exact h2
      · simp
    simp only [Rx.Nd.told, List.length_append, List.length_cons, List.length_nil]
    omega
  | .cat l, hs => by
    simp only [Rx.Nd.size] at hs ⊢
    have h1 := tolds_le l 0 (by omega)
    have h2 := sepBy_sum [] (by simp) (Rx.tolds l)
    simp only [Rx.Nd.told, List.length_append, List.length_cons, List.length_nil]
    omega
  | .alt l, hs => by
    simp only [Rx.Nd.size] at hs ⊢
    have h1 := tolds_le l 0 (by omega)
    have h2 := sepBy_sum [124] (by simp) (Rx.tolds l)
    simp only [Rx.Nd.told, List.length_append, List.length_cons, List.length_nil]
    omega
theorem tolds_le : (l : List Rx.Nd) → (a : Nat) → Rx.sizes l a < 20000 → ((Rx.tolds l).map fun x => x.length + 1).sum + 2000 * a ≤ 2000 * Rx.sizes l a
  | [], a, _ => by simp [Rx.tolds, Rx.sizes]
  | k :: r, a, hs => by
    simp only [Rx.sizes] at hs ⊢
    have h1 := tolds_le r (min 20000 (a + k.size)) hs
    have h0 : min 20000 (a + k.size) ≤ Rx.sizes r (min 20000 (a + k.size)) := by omega
    have hk := told_le k (by omega)
    simp only [Rx.tolds, List.map_cons, List.sum_cons]
    omega
end

theorem mem_sepBy (t : Rx.Bytes) : ∀ l : List Rx.Bytes, ∀ x ∈ l, x.length ≤ (Rx.sepBy t l).length
  | [], _, h => by simp at h
  | [x], y, h => by simp at h; subst h; simp [Rx.sepBy]
  | x :: y :: r, z, h => by
    have ih := mem_sepBy t (y :: r)
    simp only [Rx.sepBy, List.length_append] at ih ⊢
    rcases List.mem_cons.1 h with rfl | h
    · omega
    · have := ih z h; omega

theorem tolds_mem (l : List Rx.Nd) (i : Nat) (hi : i < l.length) : (Rx.tolds l).getD i [] ∈ Rx.tolds l := by
  rw [List.getD_eq_getElem?_getD, List.getElem?_eq_getElem (by rw [tolds_len]; exact hi)]
  exact List.getElem_mem _

theorem told_any {M : Nat → Prop} {w : World} {p : Nat} {n : Rx.Nd} (h : NdIn w M p n) : ∀ w', Below w.heap.size w w' → Glo w' → 8 ≤ w'.heap.size → n.told.length ≤ 140737488355000 → ToldC n p w' := by
  have glo : ∀ {w' w'' : World}, Glo w' → 8 ≤ w'.heap.size → Below w'.heap.size w' w'' → Glo w'' ∧ 8 ≤ w''.heap.size := fun hg h8 hb =>
    ⟨hg.kept (Kept.of_below (S := fun _ => False) hb) (fun _ h => h.elim) h8, Nat.le_trans h8 hb.size⟩
  induction h with
  | empty hp hb => intro w' hw _ _ _; exact told_empty _ w' (hb.keep hw hb.lt)
  | set hp hb => intro w' hw hg h8 _; exact told_set _ _ w' (hb.keep hw hb.lt) hg h8
  | beg hp hb => intro w' hw _ _ _; exact told_beg _ w' (hb.keep hw hb.lt)
  | fin hp hb => intro w' hw _ _ _; exact told_fin _ w' (hb.keep hw hb.lt)
  | cat hp hb h0 hc hk' hl hps _ ih =>
    intro w' hw hg h8 hlen
    refine told_list _ _ _ 4 .cat .cat _ _ w' (hb.keep hw hb.lt) hc hl (hps.kept (Kept.of_below (S := fun _ => False) hw) id) (fun i hi w'' hw'' => ?_) hlen
    obtain ⟨g1, g2⟩ := glo hg h8 hw''
    refine ih i hi w'' (hw.trans (hw''.mono hw.size)) g1 g2 ?_
    rw [tolds_get _ i hi]
    have h2 := mem_sepBy [] _ _ (tolds_mem _ i hi)
    simp only [Rx.Nd.told, List.length_append, List.length_cons, List.length_nil] at hlen
    omega
  | alt hp hb h0 hc hk' hl hps _ ih =>
    intro w' hw hg h8 hlen
    refine told_list _ _ _ 5 .alt .alt _ _ w' (hb.keep hw hb.lt) hc hl (hps.kept (Kept.of_below (S := fun _ => False) hw) id) (fun i hi w'' hw'' => ?_) hlen
    obtain ⟨g1, g2⟩ := glo hg h8 hw''
    refine ih i hi w'' (hw.trans (hw''.mono hw.size)) g1 g2 ?_
    rw [tolds_get _ i hi]
    have h2 := mem_sepBy [124] _ _ (tolds_mem _ i hi)
    simp only [Rx.Nd.told, List.length_append, List.length_cons, List.length_nil] at hlen
    omega
  | rep hp hb hk' hps _ hm ih =>
    intro w' hw hg h8 hlen
    have hl2 : ∀ (m : Nat) (most : Int) (n : Rx.Nd), n.told.length ≤ (Rx.Nd.rep m most n).told.length := fun m most n => by
      simp only [Rx.Nd.told, List.length_append]; omega
    have hl3 := Nat.le_trans (hl2 _ _ _) hlen
    refine told_rep _ _ _ _ _ _ w' (hb.keep hw hb.lt) (hps.kept (Kept.of_below (S := fun _ => False) hw) id) hm hg h8 (fun w'' hw'' => ?_) hl3
    obtain ⟨g1, g2⟩ := glo hg h8 hw''
    exact ih w'' (hw.trans (hw''.mono hw.size)) g1 g2 hl3

theorem String_any (B q : Nat) (n : Rx.Nd) (w : World) (h : ReAt w B q n) (hg : Glo w) (h8 : 8 ≤ w.heap.size) (hl : n.told.length ≤ 140737488355000) :
    Calls Tryz.prog 21 #[.pointer (some ⟨q, 0, none⟩)] w fun e w' => e = .returned (.string ⟨n.told.toArray⟩) ∧ Below w.heap.size w w' := by
  obtain ⟨p, hb, hq, hn⟩ := h
  have ht := told_any hn w (Below.refl _ _) hg h8 hl
  have c0 : w.cell? ⟨q, 0, none⟩ = some (.pointer (some ⟨p, 0, none⟩)) := hb.cell 0 rfl
  unfold ToldC at ht
  go_enter Tryz.func21, Tryz.ntmps21
  go_wp2_with fail
  refine ht.mono ?_
  rintro e w' ⟨rfl, hb'⟩
  go_wp2_with fail
  go_ret
  exact ⟨rfl, hb'⟩

/-- What the law's told hands back. -/
def tellVal : Option Rx.Bytes → Value
  | none => .tuple #[.string ⟨#[]⟩, .bool false]
  | some t => .tuple #[.string ⟨t.toArray⟩, .bool true]

set_option maxRecDepth 100000 in
theorem told15_any (s : Rx.Bytes) (ext fold : Bool) (w : World) (hg : Glo w) (h8 : 8 ≤ w.heap.size) (hl : s.length < 1073741824) :
    Calls Tryz.prog 22 #[.string ⟨s.toArray⟩, .bool ext, .bool fold] w fun e w' => e = .returned (tellVal (Rx.tellOf s ext fold)) ∧ Below w.heap.size w w' := by
  have hp := Parse_any s ext fold w hg h8 hl
  have HT : Hid (Rx.tellOf s ext fold = match Rx.read s ext fold with
    | none => none
    | some n => if 10000 < n.size then none else some n.told) := by show _ = _; rfl
  cases hx : Rx.read s ext fold with
  | none =>
    rw [hx] at hp HT
    unfold ParsePost at hp
    rw [HT.out]
    clear HT
    go_enter Tryz.func22, Tryz.ntmps22
    go_wp2_with fail
    refine hp.mono ?_
    rintro e w' ⟨rfl, hb⟩
    go_wp2_with fail
    go_ret2
    exact ⟨rfl, hb⟩
  | some n =>
    rw [hx] at hp HT
    unfold ParsePost at hp
    by_cases hbig : 10000 < n.size
    · simp only [if_pos hbig] at hp HT
      rw [HT.out]
      clear HT hbig
      go_enter Tryz.func22, Tryz.ntmps22
      go_wp2_with fail
      refine hp.mono ?_
      rintro e w' ⟨rfl, hb⟩
      go_wp2_with fail
      go_ret2
      exact ⟨rfl, hb⟩
    · simp only [if_neg hbig] at hp HT
      rw [HT.out]
      have hle := told_le n (by omega)
      have hle2 : n.told.length ≤ 140737488355000 := by omega
      clear HT hbig hle
      go_enter Tryz.func22, Tryz.ntmps22
      go_wp2_with fail
      refine hp.mono ?_
      rintro e w' ⟨⟨q, rfl, hre⟩, hb⟩
      have hstr := String_any w.heap.size q n w' hre (hg.kept (Kept.of_below (S := fun _ => False) hb) (fun _ h => h.elim) h8) (Nat.le_trans h8 hb.size) hle2
      go_wp2_with fail
      refine hstr.mono ?_
      rintro e w2 ⟨rfl, hb2⟩
      go_wp2_with fail
      go_ret2
      exact ⟨rfl, hb.trans (hb2.mono hb.size)⟩

end Go.Proofs.YthdkbbkkijdhfaaGreatDoor

/-
  The walks of the chapter's examples, and of Literal. Conditions: what is told lies in memory; the library's variables hold what they hold.
-/
namespace Go.Proofs.YthdkbbkkijdhfaaGreatDoor
open Go.RowKit Go.Shelf Go.Maps

theorem Glo.step {w w' : World} (h : Glo w) (h8 : 8 ≤ w.heap.size) (hb : Below w.heap.size w w') : Glo w' ∧ 8 ≤ w'.heap.size :=
  ⟨h.kept (Kept.of_below (S := fun _ => False) hb) (fun _ h => h.elim) h8, Nat.le_trans h8 hb.size⟩

theorem tellVal_some (t : Rx.Bytes) : tellVal (some t) = .tuple #[.string ⟨t.toArray⟩, .bool true] := rfl
theorem tellVal_none : tellVal none = .tuple #[.string ⟨#[]⟩, .bool false] := rfl

set_option maxHeartbeats 3200000 in
set_option maxRecDepth 100000 in
theorem awake_any (w : World) (hg : Glo w) (h8 : 8 ≤ w.heap.size) :
    Calls Tryz.prog 16 #[] w fun e w' => e = .returned (.bool true) ∧ Below w.heap.size w w' := by
  have t1 : Rx.tellOf [97, 98, 42] false false = some [40, 60, 54, 49, 62, 60, 54, 50, 62, 123, 48, 44, 125, 41] := by decide +kernel
  have t2 : Rx.tellOf [40, 97, 124, 91, 98, 45, 100, 93, 41, 43, 36] true false = some [40, 40, 60, 54, 49, 62, 124, 60, 54, 50, 45, 54, 52, 62, 41, 123, 49, 44, 125, 36, 41] := by decide +kernel
  have t3 : Rx.tellOf [97] true true = some [60, 52, 49, 44, 54, 49, 62] := by decide +kernel
  have t4 : Rx.tellOf [42, 97] false false = some [40, 60, 50, 97, 62, 60, 54, 49, 62, 41] := by decide +kernel
  have t5 : Rx.tellOf [42, 97] true false = none := by decide +kernel
  have t6 : Rx.tellOf [91, 93, 97, 45, 93] false false = some [60, 50, 100, 44, 53, 100, 44, 54, 49, 62] := by decide +kernel
  have t7 : Rx.read [91, 122, 45, 97, 93] true false = none := by
    have : (Rx.read [91, 122, 45, 97, 93] true false).isNone = true := by decide +kernel
    exact Option.isNone_iff_eq_none.1 this
  have c1 := fun w hg h8 => told15_any [97, 98, 42] false false w hg h8 (by decide)
  have c2 := fun w hg h8 => told15_any [40, 97, 124, 91, 98, 45, 100, 93, 41, 43, 36] true false w hg h8 (by decide)
  have c3 := fun w hg h8 => told15_any [97] true true w hg h8 (by decide)
  have c4 := fun w hg h8 => told15_any [42, 97] false false w hg h8 (by decide)
  have c5 := fun w hg h8 => told15_any [42, 97] true false w hg h8 (by decide)
  have c6 := fun w hg h8 => told15_any [91, 93, 97, 45, 93] false false w hg h8 (by decide)
  have c7 := fun w hg h8 => Parse_any [91, 122, 45, 97, 93] true false w hg h8 (by decide)
  simp only [t1, tellVal_some] at c1
  simp only [t2, tellVal_some] at c2
  simp only [t3, tellVal_some] at c3
  simp only [t4, tellVal_some] at c4
  simp only [t5, tellVal_none] at c5
  simp only [t6, tellVal_some] at c6
  simp only [t7, ParsePost] at c7
  clear t1 t2 t3 t4 t5 t6 t7
  go_enter Tryz.func16, Tryz.ntmps16
  go_wp2_with fail
  refine (c1 _ hg h8).mono ?_
  rintro e w1 ⟨rfl, b1⟩
  obtain ⟨g1, i1⟩ := hg.step h8 b1
  go_wp2_with fail
  refine (c2 _ g1 i1).mono ?_
  rintro e w2 ⟨rfl, b2⟩
  obtain ⟨g2, i2⟩ := g1.step i1 b2
  have d2 := b1.trans (b2.mono b1.size)
  clear b1 b2 g1 i1
  go_wp2_with fail
  refine (c3 _ g2 i2).mono ?_
  rintro e w3 ⟨rfl, b3⟩
  obtain ⟨g3, i3⟩ := g2.step i2 b3
  have d3 := d2.trans (b3.mono d2.size)
  clear b3 g2 i2 d2
  go_wp2_with fail
  refine (c4 _ g3 i3).mono ?_
  rintro e w4 ⟨rfl, b4⟩
  obtain ⟨g4, i4⟩ := g3.step i3 b4
  have d4 := d3.trans (b4.mono d3.size)
  clear b4 g3 i3 d3
  go_wp2_with fail
  refine (c5 _ g4 i4).mono ?_
  rintro e w5 ⟨rfl, b5⟩
  obtain ⟨g5, i5⟩ := g4.step i4 b5
  have d5 := d4.trans (b5.mono d4.size)
  clear b5 g4 i4 d4
  go_wp2_with fail
  refine (c6 _ g5 i5).mono ?_
  rintro e w6 ⟨rfl, b6⟩
  obtain ⟨g6, i6⟩ := g5.step i5 b6
  have d6 := d5.trans (b6.mono d5.size)
  clear b6 g5 i5 d5
  go_wp2_with fail
  refine (c7 _ g6 i6).mono ?_
  rintro e w7 ⟨rfl, b7⟩
  have d7 := d6.trans (b7.mono d6.size)
  clear b7 g6 i6 d6 c1 c2 c3 c4 c5 c6 c7
  go_wp2_with fail
  go_ret
  exact ⟨rfl, d7⟩

end Go.Proofs.YthdkbbkkijdhfaaGreatDoor

/-
  What comes in, opened: what the row's list gives.
-/
namespace Go.Proofs.YthdkbbkkijdhfaaGreatDoor
open Go.ChangeShapes Go.WideShapes Go.ChangeAt Go.RowKit

theorem own : ownKnob Tryz.prog.godebug = none := by kernel_rfl
theorem isLaidOut : laidOutB Tryz.prog = true := by kernel_rfl
theorem cellsByte : Tryz.prog.cellsOf 5 = 1 := by kernel_rfl
theorem cellsStr : Tryz.prog.cellsOf 9 = 1 := by kernel_rfl
theorem cellsErr : Tryz.prog.cellsOf 194 = 1 := by kernel_rfl
theorem errStar : "*" ++ "errors.errorString" = "*errors.errorString" := by decide
theorem rowErr (u : TypeId) (h : Tryz.prog.typeName? 3 u = some "*errors.errorString") : u = 192 :=
  typeName_ptr_named (nm := "errors.errorString") (by rw [errStar]; kernel_rfl) (by kernel_rfl) (by decide) u (by rw [errStar]; exact h)
theorem gRngType : (Tryz.prog.globals[7]?).map (·.type) = some 113 := by kernel_rfl
theorem gSynType : (Tryz.prog.globals[6]?).map (·.type) = some 113 := by kernel_rfl
theorem gTab64 : Tryz.prog.globalNamed "math/bits.deBruijn64tab" = some 3 := by kernel_rfl

theorem gTab64Type : (Tryz.prog.globals[3]?).map (·.type) = some 150 := by kernel_rfl
theorem gPowType : (Tryz.prog.globals[0]?).map (·.type) = some 129 := by kernel_rfl

def tab64 : List Int := [0, 1, 56, 2, 57, 49, 28, 3, 61, 58, 42, 50, 38, 29, 17, 4, 62, 47, 59, 36, 45, 43, 51, 22, 53, 39, 33, 30, 24, 18, 12, 5, 63, 55, 48, 27, 60, 41, 37, 16, 46, 35, 44, 21, 52, 32, 23, 11, 54, 26, 40, 15, 34, 20, 31, 10, 25, 14, 19, 9, 13, 8, 7, 6]

/-- What the rows' list gives. -/
theorem glo_of {W : World} {L : List (String × DataW Unit)} (hL : L = Rows.regexQuotesUptoRow.laid) (h : laidMetH Tryz.prog L W) (hs : W.ShapedOpen Tryz.prog) : Glo W ∧ 8 ≤ W.heap.size := by
  subst hL
  rw [MakeChecks.laidMetH_plain _ _ _ (by kernel_rfl)] at h
  have h1 := h.tail
  have h2 := h1.tail
  have h4 := h2.tail.tail
  obtain ⟨a1, s1, hv1, _⟩ := laid_sentinel h4 gRng gRngType Tryz.underlying113 rowErr Tryz.underlying192 Tryz.underlying194 rfl rfl Tryz.underlying9 cellsErr cellsStr
  obtain ⟨a2, s2, hv2, _⟩ := laid_sentinel h4.tail gSyn gSynType Tryz.underlying113 rowErr Tryz.underlying192 Tryz.underlying194 rfl rfl Tryz.underlying9 cellsErr cellsStr
  have t1 : Lib.TabIs Tryz.prog W "math/bits.deBruijn64tab" .u8 tab64 := Lib.tabIs_of_head (n := 64) gTab64 gTab64Type Tryz.underlying150 Tryz.underlying5 (by kernel_rfl) (by kernel_rfl) h1
  have t2 : Lib.TabIs Tryz.prog W "internal/strconv.uint64pow10" .u64 Lib.pow10Tab := Lib.tabIs_of_head (n := 20) gPow gPowType Tryz.underlying129 Tryz.underlying117 (by kernel_rfl) (by kernel_rfl) h2
  have hmx := Tryz.laysM145.s1_3 W hs
  refine ⟨⟨⟨_, _, hv2⟩, ⟨_, _, hv1⟩, hmx, t2, t1.cell gTab64 15 (by decide)⟩, ?_⟩
  have hb : 7 < W.heap.size := by
    unfold World.var? at hv1
    rw [gRng] at hv1
    simp only [Option.bind_some] at hv1
    rcases Nat.lt_or_ge 7 W.heap.size with h' | h'
    · exact h'
    · rw [Array.getElem?_eq_none h'] at hv1; cases hv1
  omega

end Go.Proofs.YthdkbbkkijdhfaaGreatDoor

/-
  A slice of bytes that comes in, opened.
-/
namespace Go.Proofs.YthdkbbkkijdhfaaGreatDoor
open Go.ChangeShapes Go.WideShapes Go.ChangeAt Go.RowKit

theorem add_plain' (b o k : Nat) : (⟨b, o, none⟩ : Addr).add k = ⟨b, o + k, none⟩ := by
  simp only [Addr.add]; split <;> simp_all

/-- An address that holds a cell is a plain one. -/
theorem plain_addr {W : World} {a : Addr} {v : Value} (h : W.cell? a = some v) : a = ⟨a.block, a.off, none⟩ := by
  obtain ⟨b, o, s⟩ := a
  unfold World.cell? at h
  cases s with
  | none => rfl
  | some s =>
    split at h
    · simp at h
    · cases h

section
variable {H : Type} {enc : TypeId × Value → H} {W : World}

theorem byte_nat {z : Int} (h : (Lit.int .u8 z).wf = true) : ((UInt8.ofNat z.toNat).toNat : Int) = z := by
  have h2 : 0 ≤ z ∧ z < 256 := by
    have e1 : IntKind.u8.min = 0 := rfl
    have e2 : IntKind.u8.max = 255 := rfl
    have := h
    simp [Lit.wf, e1, e2] at this
    omega
  have : z.toNat < 256 := by omega
  simp [UInt8.toNat_ofNat', Nat.mod_eq_of_lt this]
  omega

/-- A slice of bytes. -/
theorem open_bytes {a0 : Option Addr} {len cap : Nat} {d0 : DataW H} {p : List MemPlace} (h0 : DataW.Trod enc Tryz.prog W 0 (fun _ => true) true 22 (.slice a0 len cap) d0 p) :
    ∃ b : Rx.Bytes, b.length = len ∧ len ≤ cap ∧ (a0 = none → cap = 0) ∧ Bs W a0 b ∧ len ≤ Rows.uptoBulk d0 := by
  obtain ⟨fuel, hf⟩ := h0
  rcases open_ints Tryz.underlying22 Tryz.underlying5 cellsByte hf with ⟨hcs, hx⟩ | ⟨a, len', cap', zs, hcs, _, hl, hm, hz, hx, hcell, hwz⟩
  · simp [Value.cells] at hcs
    obtain ⟨rfl, rfl, rfl⟩ := hcs
    exact ⟨[], rfl, Nat.le_refl _, fun _ => rfl, Bs.nil _ _, Nat.zero_le _⟩
  · simp [Value.cells] at hcs
    obtain ⟨rfl, rfl, rfl⟩ := hcs
    simp only [Prod.mk.injEq] at hx
    obtain ⟨rfl, rfl⟩ := hx
    simp only [if_true] at hz
    refine ⟨(zs.take len).map fun z => UInt8.ofNat z.toNat, by simp; omega, hl, by simp, fun hpos => ?_, ?_⟩
    · simp at hpos
      have hc0 := hcell 0 (by omega)
      have ha : a = ⟨a.block, a.off, none⟩ := plain_addr (a := a) (by simpa [Addr.add] using hc0)
      refine ⟨a.block, a.off, by rw [← ha], fun i hi => ?_⟩
      simp at hi
      have hc := hcell i (by omega)
      rw [ha, add_plain'] at hc
      rw [hc]
      have hw := byte_nat (hwz (zs.getD i 0) (by simp [List.getD_eq_getElem?_getD, List.getElem?_eq_getElem (show i < zs.length by omega)]))
      congr 2
      rw [← hw]
      congr 2
      simp [List.getD_eq_getElem?_getD, show i < len by omega, List.getElem?_eq_getElem (show i < zs.length by omega)]
    · have := bulks.slice_le (lits (H := H) .u8 (zs.take len)) (lits .u8 (zs.drop len))
      simp [lits] at this
      simp [lits]; omega

end

end Go.Proofs.YthdkbbkkijdhfaaGreatDoor

/-
  The reference's reader in memory; the walks of ahead and takes. Condition: the reader lies in memory as it is told.
-/
namespace Go.Proofs.YthdkbbkkijdhfaaGreatDoor
open Go.RowKit Go.Shelf Go.Maps

/-- The reference's reader. -/
def RfAt (w : World) (r : Nat) (s : Rx.Bytes) (at_ : Nat) (ext fold bad : Bool) : Prop := Blk w r #[.string ⟨s.toArray⟩, .int .i64 at_, .bool ext, .bool fold, .bool bad] 63

theorem prefix_take (t u : Rx.Bytes) : t.isPrefixOf u = decide (t.length ≤ u.length ∧ u.take t.length = t) := by
  rw [Bool.eq_iff_iff, List.isPrefixOf_iff_prefix, decide_eq_true_eq]
  constructor
  · rintro ⟨v, rfl⟩
    simp
  · rintro ⟨-, h⟩
    exact ⟨u.drop t.length, by conv => lhs; lhs; rw [← h]
                               rw [List.take_append_drop]⟩

set_option maxHeartbeats 1600000 in
set_option maxRecDepth 100000 in
theorem ahead_any (r : Nat) (s t : Rx.Bytes) (at_ : Nat) (ext fold bad : Bool) (w : World) (h : RfAt w r s at_ ext fold bad) (ha : at_ ≤ s.length) (hl : s.length < 1073741824) (ht : t.length < 1073741824) :
    Calls Tryz.prog 46 #[.pointer (some ⟨r, 0, none⟩), .string ⟨t.toArray⟩] w fun e w' => e = .returned (.bool (t.isPrefixOf (s.drop at_))) ∧ Below w.heap.size w w' := by
  have c0 : w.cell? ⟨r, 0, none⟩ = some (.string ⟨s.toArray⟩) := Blk.cell h 0 rfl
  have c1 : w.cell? ⟨r, 1, none⟩ = some (.int .i64 at_) := Blk.cell h 1 rfl
  rw [prefix_take]
  generalize hD : decide (t.length ≤ (s.drop at_).length ∧ (s.drop at_).take t.length = t) = D
  have HD := Lib.hid hD
  clear hD h
  have ex : (⟨s.toArray⟩ : ByteArray).extract at_ (at_ + t.length) = ⟨((s.drop at_).take t.length).toArray⟩ := by
    apply ByteArray.ext
    simp [ByteArray.data_extract, List.take_drop]
  by_cases hf : at_ + t.length ≤ s.length
  · have HD2 : Hid (D = ((s.drop at_).take t.length == t)) := by
      show _ = _
      rw [← HD.out, Bool.eq_iff_iff, decide_eq_true_eq, beq_iff_eq]
      constructor
      · exact fun h => h.2
      · exact fun h => ⟨by simp; omega, h⟩
    generalize (s.drop at_).take t.length = u at *
    have hf2 : (at_ : Int) + (t.length : Int) ≤ (s.length : Int) := by omega
    clear HD
    go_enter Tryz.func46, Tryz.ntmps46
    go_wp2_with fail
    go_region
    go_wp2_with fail
    go_ret
    exact ⟨by rw [HD2.out]; rfl, (Kept.refl (fun _ => False) w).drew.below⟩
  · have HD2 : Hid (D = false) := by
      show _ = _
      rw [← HD.out, decide_eq_false_iff_not]
      rintro ⟨h, -⟩
      simp at h
      omega
    have hf2 : ((at_ : Int) + (t.length : Int) ≤ (s.length : Int)) = False := by simp; omega
    have hf3 : decide ((at_ : Int) + (t.length : Int) ≤ (s.length : Int)) = false := by simp; omega
    have hw : IntKind.i64.wrap ((at_ : Int) + (t.length : Int)) = (at_ : Int) + (t.length : Int) := by simp [IntKind.wrap, IntKind.signed, IntKind.bits]; omega
    clear HD ex
    go_enter Tryz.func46, Tryz.ntmps46
    go_wp2_with fail
    go_region
    go_wp2_with fail
    go_ret
    exact ⟨by rw [HD2.out]; rfl, (Kept.refl (fun _ => False) w).drew.below⟩

/-- The place behind a text that stands here. -/
def behind (s t : Rx.Bytes) (at_ : Nat) : Nat := if t.isPrefixOf (s.drop at_) then at_ + t.length else at_
theorem behind_le (s t : Rx.Bytes) (at_ : Nat) (h : at_ ≤ s.length) : at_ ≤ behind s t at_ ∧ behind s t at_ ≤ s.length := by
  unfold behind
  split
  · rename_i hp
    rw [prefix_take, decide_eq_true_eq] at hp
    have := hp.1
    simp at this
    omega
  · omega

theorem RfAt.keep {w w' : World} {r : Nat} {s : Rx.Bytes} {at_ : Nat} {ext fold bad : Bool} (h : RfAt w r s at_ ext fold bad) (hb : Below w.heap.size w w') : RfAt w' r s at_ ext fold bad := Blk.keep h hb (Blk.lt h)

set_option maxHeartbeats 1600000 in
set_option maxRecDepth 100000 in
theorem takes_any (r : Nat) (s t : Rx.Bytes) (at_ : Nat) (ext fold bad : Bool) (w : World) (h : RfAt w r s at_ ext fold bad) (ha : at_ ≤ s.length) (hl : s.length < 1073741824) (ht : t.length < 1073741824) :
    Calls Tryz.prog 44 #[.pointer (some ⟨r, 0, none⟩), .string ⟨t.toArray⟩] w fun e w' => (e = .returned (.bool (t.isPrefixOf (s.drop at_))) ∧ RfAt w' r s (behind s t at_) ext fold bad) ∧ Kept (· = r) w w' := by
  have hah := ahead_any r s t at_ ext fold bad w h ha hl ht
  have hble := behind_le s t at_ ha
  have HBE : Hid (behind s t at_ = if t.isPrefixOf (s.drop at_) then at_ + t.length else at_) := rfl
  have H := Lib.hid h
  generalize behind s t at_ = bh at *
  clear h
  cases hp : t.isPrefixOf (s.drop at_) with
  | false =>
    rw [hp] at hah HBE
    clear hp
    go_enter Tryz.func44, Tryz.ntmps44
    go_wp2_with fail
    refine hah.mono ?_
    rintro e w1 ⟨rfl, b1⟩
    have H1 := Lib.hid (H.out.keep b1)
    have B1 := Lib.hid b1
    clear b1 hah
    go_wp2_with fail
    go_ret
    exact ⟨⟨rfl, by rw [HBE.out, if_neg (by decide)]; exact H1.out⟩, Kept.of_below B1.out⟩
  | true =>
    rw [hp] at hah HBE
    clear hp
    have hbn : bh = at_ + t.length := by rw [HBE.out, if_pos rfl]
    go_enter Tryz.func44, Tryz.ntmps44
    go_wp2_with fail
    refine hah.mono ?_
    rintro e w1 ⟨rfl, b1⟩
    have H1 := Lib.hid (H.out.keep b1)
    have B1 := Lib.hid b1
    have c1 : w1.cell? ⟨r, 1, none⟩ = some (.int .i64 at_) := Blk.cell H1.out 1 rfl
    have f1 := Blk.free H1.out 1
    have HBN := Lib.hid hbn
    clear b1 hah hbn
    go_wp2_with fail
    go_ret
    refine ⟨⟨rfl, ?_⟩, Kept.setCell (S := (· = r)) (Kept.of_below B1.out) (.inl rfl) 1 _⟩
    rw [HBN.out]
    have := Blk.set H1.out 1 (.int .i64 ((at_ : Int) + (t.length : Int)))
    unfold RfAt
    simpa using this

end Go.Proofs.YthdkbbkkijdhfaaGreatDoor
