/-
  The walk of told. Conditions: the node lies in memory, and what it is told as is no longer than memory allows; the library's variables hold what they hold.
-/
import Derived.Test.YthdkbbkkijdhfaaGreatDoorW21
namespace Go.Proofs.YthdkbbkkijdhfaaGreatDoor
open Go.RowKit Go.Shelf Go.Maps Go.Sort

/-- told's contract. -/
def ToldC (n : Rx.Nd) (p : Nat) (w : World) : Prop :=
  Calls Tryz.prog 41 #[.pointer (some ⟨p, 0, none⟩)] w fun e w' => e = .returned (.string ⟨n.told.toArray⟩) ∧ Below w.heap.size w w'

theorem told_empty (p : Nat) (w : World) (hb : Blk w p (ndCells 0 noHas 0 0 (.slice none 0 0)) 87) : ToldC .empty p w := by
  have c0 := hb.cell 0 (nd_kind _ _ _ _ _)
  have e : Rx.Nd.empty.told = [40, 41] := by simp [Rx.Nd.told]
  unfold ToldC
  rw [e]
  go_enter Tryz.func41, Tryz.ntmps41
  go_wp2_with fail
  go_ret
  exact ⟨rfl, Below.refl _ _⟩
theorem told_beg (p : Nat) (w : World) (hb : Blk w p (ndCells 2 noHas 0 0 (.slice none 0 0)) 87) : ToldC .beg p w := by
  have c0 := hb.cell 0 (nd_kind _ _ _ _ _)
  have e : Rx.Nd.beg.told = [94] := by simp [Rx.Nd.told]
  unfold ToldC
  rw [e]
  go_enter Tryz.func41, Tryz.ntmps41
  go_wp2_with fail
  go_ret
  exact ⟨rfl, Below.refl _ _⟩
theorem told_fin (p : Nat) (w : World) (hb : Blk w p (ndCells 3 noHas 0 0 (.slice none 0 0)) 87) : ToldC .fin p w := by
  have c0 := hb.cell 0 (nd_kind _ _ _ _ _)
  have e : Rx.Nd.fin.told = [36] := by simp [Rx.Nd.told]
  unfold ToldC
  rw [e]
  go_enter Tryz.func41, Tryz.ntmps41
  go_wp2_with fail
  go_ret
  exact ⟨rfl, Below.refl _ _⟩
theorem told_set (p : Nat) (h : Rx.Has) (w : World) (hb : Blk w p (setCells h) 87) (hg : Glo w) (h8 : 8 ≤ w.heap.size) : ToldC (.set h) p w := by
  have c0 := hb.cell 0 (nd_kind _ _ _ _ _)
  have e : (Rx.Nd.set h).told = Rx.ranges h := by simp [Rx.Nd.told]
  have hr := ranges_any p 1 0 0 _ h w hb hg h8
  unfold ToldC
  rw [e]
  go_enter Tryz.func41, Tryz.ntmps41
  go_wp2_with fail
  refine hr.mono ?_
  rintro e w' ⟨rfl, hb'⟩
  go_wp2_with fail
  go_ret
  exact ⟨rfl, hb'⟩

theorem digits10_len : ∀ c : Nat, c < 256 → (Rx.digitsF 10 20 c).length ≤ 3 := by decide +kernel

set_option maxHeartbeats 3200000 in
set_option maxRecDepth 100000 in
theorem told_rep (p k q m : Nat) (most : Int) (n : Rx.Nd) (w : World) (hb : Blk w p (ndCells 6 noHas m most (.slice (some ⟨k, 0, none⟩) 1 1)) 87) (hps : Ptrs w k [q]) (hm : m ≤ 255 ∧ -1 ≤ most ∧ most ≤ 255)
    (hg : Glo w) (h8 : 8 ≤ w.heap.size) (hn : ∀ w', Below w.heap.size w w' → ToldC n q w') (hl : n.told.length ≤ 140737488355000) : ToldC (.rep m most n) p w := by
  have c0 := hb.cell 0 (nd_kind _ _ _ _ _)
  have c2 := hb.cell 258 (nd_max _ _ _ _ _)
  have cq : w.cell? ⟨k, 0, none⟩ = some (.pointer (some ⟨q, 0, none⟩)) := hps 0 (by simp)
  have e : (Rx.Nd.rep m most n).told = n.told ++ 123 :: Rx.digitsF 10 20 m ++ 44 :: (if 0 ≤ most then Rx.digitsF 10 20 most.toNat else []) ++ [125] := by simp [Rx.Nd.told]
  have hml := digits10_len m (by omega)
  have HG := Lib.hid hg
  have HN := Lib.hid hn
  have HB := Lib.hid hb
  obtain ⟨tm, hT⟩ : ∃ tm : Rx.Bytes, (if 0 ≤ most then Rx.digitsF 10 20 most.toNat else []) = tm := ⟨_, rfl⟩
  rw [hT] at e
  have htl : tm.length ≤ 3 := by
    rw [← hT]
    split
    · exact digits10_len _ (by omega)
    · simp
  have HT := Lib.hid hT
  unfold ToldC
  rw [e]
  clear hps hg hn e hb hT
  go_enter Tryz.func41, Tryz.ntmps41
  go_upto_if 28 with fail
  go_cut [3, 28, 29, 30, 31, 32, 33] (fun s3 _ _ _ _ _ _ wx => s3 = .string ⟨tm.toArray⟩ ∧ Below w.heap.size w wx)
  case first =>
    by_cases h0 : 0 ≤ most
    · obtain ⟨mm, rfl⟩ : ∃ mm : Nat, most = mm := ⟨most.toNat, by omega⟩
      have hd := digits10_any mm (by omega) w HG.out
      have HT2 : Hid (Rx.digitsF 10 20 mm = tm) := by show _ = _; rw [← HT.out, if_pos h0]; rfl
      go_wp2_with fail
      refine hd.mono ?_
      rintro e w' ⟨rfl, hb'⟩
      go_wp2_with fail
      go_meet
      exact ⟨by rw [HT2.out], hb'⟩
    · have HT2 : Hid ([] = tm) := by show _ = _; rw [← HT.out, if_neg h0]
      go_wp2_with fail
      go_meet
      exact ⟨by rw [← HT2.out], Below.refl _ _⟩
  case rest =>
    obtain ⟨rfl, hbw⟩ := hcut
    have hplt := HB.out.lt
    have hklt : k < w.heap.size := World.block_lt_of_cell? _ _ cq
    have hsz := hbw.size
    have hb' := HB.out.keep hbw hplt
    have c1 := cell_regrown (hb'.cell 257 (nd_min _ _ _ _ _))
    have c3 := cell_regrown (hb'.cell 259 (nd_kids _ _ _ _ _))
    have ck : wc.cell? ⟨k, 0, none⟩ = some (.pointer (some ⟨q, 0, none⟩)) := by rw [hbw.cell (p := ⟨k, 0, none⟩) hklt]; exact cq
    have ck2 := cell_regrown ck
    have hpa : ∀ d os, Calls Tryz.prog 41 #[.pointer (some ⟨q, 0, none⟩)] (grow (redrawn wc d) os) fun e w' => e = .returned (.string ⟨n.told.toArray⟩) ∧ ∃ p : Regrown, w' = grow (redrawn wc p.d) p.os := fun d os =>
      Calls.regrown_of (HN.out _ (hbw.trans ((below_regrown wc d os).mono hsz)))
    have hpb : ∀ d os, Calls Tryz.prog 24 #[.int .i64 m, .int .i64 10] (grow (redrawn wc d) os) fun e w' => e = .returned (.string ⟨(Rx.digitsF 10 20 m).toArray⟩) ∧ ∃ p : Regrown, w' = grow (redrawn wc p.d) p.os := fun d os =>
      Calls.regrown_of (digits10_any m (by omega) _ (HG.out.kept (Kept.of_below (S := fun _ => False) (hbw.trans ((below_regrown wc d os).mono hsz))) (fun _ h => h.elim) h8))
    clear c0 c2 cq ck hb'
    generalize htn : n.told = tn at *
    generalize htd : Rx.digitsF 10 20 m = tdm at *
    have HTN := Lib.hid htn
    have HTD := Lib.hid htd
    clear htn htd
    have e1 : (⟨tn.toArray⟩ : ByteArray) ++ ⟨#[123]⟩ = ⟨(tn ++ [123]).toArray⟩ := by apply ByteArray.ext; simp
    have e2 : (⟨(tn ++ [123]).toArray⟩ : ByteArray) ++ ⟨tdm.toArray⟩ = ⟨(tn ++ [123] ++ tdm).toArray⟩ := by apply ByteArray.ext; simp
    have e3 : (⟨(tn ++ [123] ++ tdm).toArray⟩ : ByteArray) ++ ⟨#[44]⟩ = ⟨(tn ++ [123] ++ tdm ++ [44]).toArray⟩ := by apply ByteArray.ext; simp
    have e4 : (⟨(tn ++ [123] ++ tdm ++ [44]).toArray⟩ : ByteArray) ++ ⟨tm.toArray⟩ = ⟨(tn ++ [123] ++ tdm ++ [44] ++ tm).toArray⟩ := by apply ByteArray.ext; simp
    have e5 : (⟨(tn ++ [123] ++ tdm ++ [44] ++ tm).toArray⟩ : ByteArray) ++ ⟨#[125]⟩ = ⟨(tn ++ [123] ++ tdm ++ [44] ++ tm ++ [125]).toArray⟩ := by apply ByteArray.ext; simp
    have l1 : (9223372036854775807 < tn.length + 1) = False := by simp; omega
    have l2 : (9223372036854775807 < tn.length + 1 + tdm.length) = False := by simp; omega
    have l3 : (9223372036854775807 < tn.length + 1 + tdm.length + 1) = False := by simp; omega
    have l4 : (9223372036854775807 < tn.length + 1 + tdm.length + 1 + tm.length) = False := by simp; omega
    have l5 : (9223372036854775807 < tn.length + 1 + tdm.length + 1 + tm.length + 1) = False := by simp; omega
    have l2' : (9223372036854775807 < tn.length + (tdm.length + 1)) = False := by simp; omega
    have l3' : (9223372036854775807 < tn.length + (tdm.length + 1) + 1) = False := by simp; omega
    have l4' : (9223372036854775807 < tn.length + (tdm.length + 1) + 1 + tm.length) = False := by simp; omega
    have l5' : (9223372036854775807 < tn.length + (tdm.length + 1) + 1 + tm.length + 1) = False := by simp; omega
    go_wp2_with fail
    refine wp_region_quiet_below (by kernel_rfl) (by kernel_rfl) ?_
    repeat (quiet_step (first | with_reducible exact hpa _ _ | with_reducible exact hpb _ _))
    refine wpQuiet_nil ?_
    intro _ hw'
    obtain ⟨⟨dq, osq⟩, hw''⟩ := hw'
    subst hw''
    have hbb := hbw.trans ((below_regrown wc dq osq).mono hsz)
    clear hpa hpb c1 c3 ck2
    generalize grow (redrawn wc dq) osq = w2 at *
    clear e1 e2 e3 e4 e5
    go_wp2_with fail
    go_ret
    refine ⟨ret_str ?_, hbb⟩
    rw [HTN.out, HTD.out]
    apply ByteArray.ext
    simp

theorem tolds_len (l : List Rx.Nd) : (Rx.tolds l).length = l.length := by
  induction l with
  | nil => rfl
  | cons x r ih => simp [Rx.tolds, ih]
theorem tolds_get (l : List Rx.Nd) : ∀ i, i < l.length → (l.getD i .empty).told = (Rx.tolds l).getD i [] := by
  induction l with
  | nil => intro i hi; simp at hi
  | cons x r ih =>
    intro i hi
    cases i with
    | zero => rfl
    | succ i => simp only [Rx.tolds, List.getD_cons_succ]; exact ih i (by simpa using hi)

set_option maxHeartbeats 3200000 in
set_option maxRecDepth 100000 in
theorem told_list (p k c : Nat) (kind : Int) (mk : List Rx.Nd → Rx.Nd) (hk : Kind2 kind mk) (l : List Rx.Nd) (ps : List Nat) (w : World) (hb : Blk w p (ndCells kind noHas 0 0 (.slice (some ⟨k, 0, none⟩) l.length c)) 87)
    (hc : l.length ≤ c ∧ l.length ≤ 1073741824) (hpl : ps.length = l.length) (hps : Ptrs w k ps)
    (hn : ∀ i, i < l.length → ∀ w', Below w.heap.size w w' → ToldC (l.getD i .empty) (ps.getD i 0) w') (hl : (mk l).told.length ≤ 140737488355000) : ToldC (mk l) p w := by
  obtain ⟨sep, hsep, hse, hk2⟩ : ∃ sep : Rx.Bytes, (mk l).told = 40 :: Rx.sepBy sep (Rx.tolds l) ++ [41] ∧ sep.length ≤ 1 ∧ ((kind = 4 ∧ sep = []) ∨ (kind = 5 ∧ sep = [124])) := by
    cases hk with
    | cat => exact ⟨[], by simp [Rx.Nd.told], by simp, .inl ⟨rfl, rfl⟩⟩
    | alt => exact ⟨[124], by simp [Rx.Nd.told], by simp, .inr ⟨rfl, rfl⟩⟩
  have c0 := hb.cell 0 (nd_kind _ _ _ _ _)
  have c3 := hb.cell 259 (nd_kids _ _ _ _ _)
  have hpw := hb.lt
  have HB := Lib.hid hb
  have HPS := Lib.hid hps
  have HN := Lib.hid hn
  obtain ⟨i0, hi, hz0, hz1, hz2⟩ := info_parts info_str
  unfold ToldC
  rw [hsep]
  rw [hsep] at hl
  have htl := tolds_len l
  have HTG := Lib.hid (tolds_get l)
  clear hb hps hn hsep
  generalize Rx.tolds l = T at *
  have I : StrsAt w w.heap.size (.slice none 0 0) (T.take 0) ∧ Below w.heap.size w w := ⟨StrsAt.nil _ _, Below.refl _ _⟩
  have h0 : ¬ kind = 0 := by omega
  have h1 : ¬ kind = 1 := by omega
  have h2 : ¬ kind = 2 := by omega
  have h3 : ¬ kind = 3 := by omega
  have h6 : ¬ kind = 6 := by omega
  have HK2 := Lib.hid hk2
  have HSE := Lib.hid hse
  clear hk2 hse hk
  have g0 : (kind == 0) = false := by simpa using h0
  have g1 : (kind == 1) = false := by simpa using h1
  have g2 : (kind == 2) = false := by simpa using h2
  have g3 : (kind == 3) = false := by simpa using h3
  have g6 : (kind == 6) = false := by simpa using h6
  go_enter Tryz.func41, Tryz.ntmps41
  go_wp2_with fail
  try simp only [g0, g1, g2, g3, g6]
  go_loopw [4, 6, 57] (fun x4 _x6 x57 wr => ∃ i : Nat, i ≤ l.length ∧ x57 = .int .i64 i ∧ StrsAt wr w.heap.size x4 (T.take i) ∧ Below w.heap.size w wr) (fun _ _ x57 _ => l.length - (intOf x57).toNat)
  case atStart => exact ⟨0, Nat.zero_le _, rfl, I⟩
  case round =>
    clear I
    obtain ⟨i, hi', rfl, hst, hbw⟩ := hrel
    by_cases hlt : i < l.length
    · have cq : wr.cell? ⟨k, i, none⟩ = some (.pointer (some ⟨ps.getD i 0, 0, none⟩)) := by
        have := HPS.out i (by omega)
        rw [hbw.cell (p := ⟨k, i, none⟩) (World.block_lt_of_cell? _ _ this)]
        exact this
      have hcall := HN.out i hlt wr hbw
      have hT := HTG.out i hlt
      unfold ToldC at hcall
      rw [hT] at hcall
      have HTK : Hid (T.take (i + 1) = T.take i ++ [T.getD i []]) := by
        show _ = _
        rw [List.take_succ_eq_append_getElem (by omega)]
        simp [List.getD_eq_getElem?_getD, List.getElem?_eq_getElem (show i < T.length by omega)]
      generalize T.getD i [] = tx at *
      generalize ps.getD i 0 = q at *
      have HST := Lib.hid hst
      have HBW := Lib.hid hbw
      clear hT hst hbw
      go_wp2_with fail
      refine hcall.mono ?_
      rintro e w3 ⟨rfl, hb3⟩
      have hst3 := HST.out.kept (Kept.of_below (S := fun _ => False) hb3) (fun _ _ h => h)
      have hszr := HBW.out.size
      have HB3 : Hid (Below w.heap.size w w3) := HBW.out.trans (hb3.mono hszr)
      have hsz3 := HB3.out.size
      have hown := hst3.own
      have hlen : (T.take i).length = i := by rw [List.length_take]; omega
      have HOB : Hid (∀ k, u4.ownBlock = some k → w.heap.size ≤ k) := fun k e => (hown.lt k e).1
      clear hst3 hb3 hcall cq
      generalize T.take i = Ti at *
      go_wp2_with (at_builtin; refine wpList_append_own_at _ rfl _ _ 100 rfl w.heap.size 9 i0 (.string ⟨#[]⟩) 1 16 Tryz.underlying100 hi hz0 hz1 hz2 rfl (by decide) _ _ _ rfl (hown.alloc _) ⟨w3.heap.size, 0, none⟩ 1 1 [strV tx] rfl rfl (cell_one_new _ _ _) (by simp [strV, Value.oneCell']) (by unfold maxLen; omega) (by omega) (by simp; omega) ?_; intro v' w5 hown' hgrow _ hv')
      have hgrow : (w3.alloc (.cells #[strV tx] 9)).grownBy w5 u4.ownBlock := hgrow
      have hbel5 : Below w.heap.size w w5 := ((Kept.of_below (S := fun _ => False) HB3.out).pushed hgrow HOB.out).below
      refine ⟨⟨i + 1, by omega, by go_num, ?_, hbel5⟩, ?_⟩
      · rw [HTK.out]
        exact ⟨fun e => by simp at e, by simpa using hown'⟩
      · show l.length - ((i : Int) + 1).toNat < l.length - (i : Int).toNat
        omega
    · obtain rfl : i = l.length := by omega
      rw [List.take_of_length_le (by omega)] at hst
      have c0' : wr.cell? ⟨p, 0, none⟩ = some (.int .i64 kind) := by rw [hbw.cell (p := ⟨p, 0, none⟩) hpw]; exact c0
      have HST := Lib.hid hst
      have HBW := Lib.hid hbw
      clear hst hbw c0
      go_upto_if 71 with fail
      go_cut [7, 68, 69, 70, 71] (fun s7 _ _ _ _ wx => s7 = .string ⟨sep.toArray⟩ ∧ wx = wr)
      case first =>
        rcases HK2.out with ⟨rfl, rfl⟩ | ⟨rfl, rfl⟩
        · go_wp2_with fail
          go_meet
          exact ⟨rfl, rfl⟩
        · go_wp2_with fail
          go_meet
          exact ⟨rfl, rfl⟩
      case rest =>
        obtain ⟨rfl, rfl⟩ := hcut
        have hl2 : (Rx.sepBy sep T).length ≤ 140737488355000 := by simp at hl; omega
        have hj := joinS_any sep _ T w.heap.size _ HST.out (by omega) (by omega)
        generalize hTX : Rx.sepBy sep T = tx at *
        have HTX := Lib.hid hTX
        clear hTX
        go_wp2_with fail
        refine hj.mono ?_
        rintro e w3 ⟨rfl, hb3⟩
        go_wp2_with fail
        go_ret
        refine ⟨ret_str ?_, HBW.out.trans (hb3.mono HBW.out.size)⟩
        rw [HTX.out]
        apply ByteArray.ext
        simp

end Go.Proofs.YthdkbbkkijdhfaaGreatDoor
