/-
  The walk of the reference's Text, but of sets. Condition: the node lies in memory, and what it is told as is no longer than memory allows.
-/
import Derived.Test.YthdkbbkkijdhfaaGreatDoorW28
namespace Go.Proofs.YthdkbbkkijdhfaaGreatDoor
open Go.RowKit Go.Shelf Go.Maps Go.Sort

/-- Text's contract. -/
def RTextC (n : Rx.Nd) (p : Nat) (w : World) : Prop :=
  Calls Tryz.prog 20 #[.pointer (some ⟨p, 0, none⟩)] w fun e w' => e = .returned (.string ⟨n.told.toArray⟩) ∧ Below w.heap.size w w'

theorem rtext_empty (p : Nat) (w : World) (hb : Blk w p (ndCells 0 noHas 0 0 (.slice none 0 0)) 68) : RTextC .empty p w := by
  have c0 := hb.cell 0 (nd_kind _ _ _ _ _)
  have e : Rx.Nd.empty.told = [40, 41] := by simp [Rx.Nd.told]
  unfold RTextC
  rw [e]
  go_enter Tryz.func20, Tryz.ntmps20
  go_wp2_with fail
  go_ret
  exact ⟨rfl, Below.refl _ _⟩
theorem rtext_beg (p : Nat) (w : World) (hb : Blk w p (ndCells 2 noHas 0 0 (.slice none 0 0)) 68) : RTextC .beg p w := by
  have c0 := hb.cell 0 (nd_kind _ _ _ _ _)
  have e : Rx.Nd.beg.told = [94] := by simp [Rx.Nd.told]
  unfold RTextC
  rw [e]
  go_enter Tryz.func20, Tryz.ntmps20
  go_wp2_with fail
  go_ret
  exact ⟨rfl, Below.refl _ _⟩
theorem rtext_fin (p : Nat) (w : World) (hb : Blk w p (ndCells 3 noHas 0 0 (.slice none 0 0)) 68) : RTextC .fin p w := by
  have c0 := hb.cell 0 (nd_kind _ _ _ _ _)
  have e : Rx.Nd.fin.told = [36] := by simp [Rx.Nd.told]
  unfold RTextC
  rw [e]
  go_enter Tryz.func20, Tryz.ntmps20
  go_wp2_with fail
  go_ret
  exact ⟨rfl, Below.refl _ _⟩

set_option maxHeartbeats 3200000 in
set_option maxRecDepth 100000 in
theorem rtext_rep (p k q m c : Nat) (most : Int) (n : Rx.Nd) (w : World) (hb : Blk w p (ndCells 6 noHas m most (.slice (some ⟨k, 0, none⟩) 1 c)) 68) (hps : Ptrs w k [q]) (hm : m ≤ 255 ∧ -1 ≤ most ∧ most ≤ 255)
    (hn : ∀ w', Below w.heap.size w w' → RTextC n q w') (hl : n.told.length ≤ 140737488355000) : RTextC (.rep m most n) p w := by
  have c0 := hb.cell 0 (nd_kind _ _ _ _ _)
  have c1 := cell_regrown (hb.cell 257 (nd_min _ _ _ _ _))
  have c2 := hb.cell 258 (nd_max _ _ _ _ _)
  have c3 := cell_regrown (hb.cell 259 (nd_kids _ _ _ _ _))
  have hplt := hb.lt
  have ck : w.cell? ⟨k, 0, none⟩ = some (.pointer (some ⟨q, 0, none⟩)) := hps 0 (by simp)
  have ck2 := cell_regrown ck
  have e : (Rx.Nd.rep m most n).told = n.told ++ 123 :: Rx.digitsF 10 20 m ++ 44 :: (if 0 ≤ most then Rx.digitsF 10 20 most.toNat else []) ++ [125] := by simp [Rx.Nd.told]
  have hml := digits10_len m (by omega)
  have hpa : ∀ d os, Calls Tryz.prog 20 #[.pointer (some ⟨q, 0, none⟩)] (grow (redrawn w d) os) fun e w' => e = .returned (.string ⟨n.told.toArray⟩) ∧ ∃ p : Regrown, w' = grow (redrawn w p.d) p.os := fun d os =>
    Calls.regrown_of (hn _ (below_regrown w d os))
  have hpb : ∀ d os, Calls Tryz.prog 40 #[.int .i64 m, .int .i64 10] (grow (redrawn w d) os) fun e w' => e = .returned (.string ⟨(Rx.digitsF 10 20 m).toArray⟩) ∧ ∃ p : Regrown, w' = grow (redrawn w p.d) p.os := fun d os =>
    Calls.regrown_of (rdigits_any m (by omega) _)
  unfold RTextC
  rw [e]
  clear hn hb e hps
  generalize htn : n.told = tn at *
  generalize htd : Rx.digitsF 10 20 m = tdm at *
  have HTN := Lib.hid htn
  have HTD := Lib.hid htd
  clear htn htd
  have e1 : (⟨tn.toArray⟩ : ByteArray) ++ ⟨#[123]⟩ = ⟨(tn ++ [123]).toArray⟩ := by apply ByteArray.ext; simp
  have e2 : (⟨(tn ++ [123]).toArray⟩ : ByteArray) ++ ⟨tdm.toArray⟩ = ⟨(tn ++ [123] ++ tdm).toArray⟩ := by apply ByteArray.ext; simp
  have e3 : (⟨(tn ++ [123] ++ tdm).toArray⟩ : ByteArray) ++ ⟨#[44]⟩ = ⟨(tn ++ [123] ++ tdm ++ [44]).toArray⟩ := by apply ByteArray.ext; simp
  have l1 : (9223372036854775807 < tn.length + 1) = False := by simp; omega
  have l2 : (9223372036854775807 < tn.length + 1 + tdm.length) = False := by simp; omega
  have l3 : (9223372036854775807 < tn.length + 1 + tdm.length + 1) = False := by simp; omega
  have l2' : (9223372036854775807 < tn.length + (tdm.length + 1)) = False := by simp; omega
  have l3' : (9223372036854775807 < tn.length + (tdm.length + 1) + 1) = False := by simp; omega
  go_enter Tryz.func20, Tryz.ntmps20
  go_wp2_with fail
  refine wp_region_quiet_below (by kernel_rfl) (by kernel_rfl) ?_
  repeat (quiet_step (first | with_reducible exact hpa _ _ | with_reducible exact hpb _ _))
  refine wpQuiet_nil ?_
  intro _ hw'
  obtain ⟨⟨dq, osq⟩, hw''⟩ := hw'
  subst hw''
  have hbb := below_regrown w dq osq
  have c2' := cell_regrown c2 dq osq
  clear hpa hpb c1 c3 ck2 c2 c0 ck
  generalize grow (redrawn w dq) osq = w2 at *
  have e4 : (⟨(tn ++ 123 :: tdm).toArray⟩ : ByteArray) ++ ⟨#[44]⟩ = ⟨(tn ++ 123 :: tdm ++ [44]).toArray⟩ := by apply ByteArray.ext; simp
  try simp only [e4]
  clear e1 e2 e3 e4
  by_cases h0 : 0 ≤ most
  · obtain ⟨mm, rfl⟩ : ∃ mm : Nat, most = mm := ⟨most.toNat, by omega⟩
    have hd := rdigits_any mm (by omega) w2
    have hdl := digits10_len mm (by omega)
    have HT2 : Hid ((if (0 : Int) ≤ mm then Rx.digitsF 10 20 (mm : Int).toNat else []) = Rx.digitsF 10 20 mm) := by show _ = _; rw [if_pos h0]; rfl
    generalize hTM : Rx.digitsF 10 20 mm = tm at *
    have HTM := Lib.hid hTM
    clear hTM
    go_wp2_with fail
    refine hd.mono ?_
    rintro e w' ⟨rfl, hb'⟩
    go_wp2_with fail
    go_ret
    refine ⟨ret_str ?_, hbb.trans (hb'.mono hbb.size)⟩
    try rw [HTM.out]
    apply ByteArray.ext
    simp
  · have HT2 : Hid ((if 0 ≤ most then Rx.digitsF 10 20 most.toNat else []) = []) := by show _ = _; rw [if_neg h0]
    go_wp2_with fail
    go_ret
    refine ⟨ret_str ?_, hbb⟩
    apply ByteArray.ext
    simp

theorem sepBy_snoc (t x : Rx.Bytes) : ∀ l : List Rx.Bytes, Rx.sepBy t (l ++ [x]) = Rx.sepBy t l ++ (if l = [] then [] else t) ++ x
  | [] => by simp [Rx.sepBy]
  | [y] => by simp [Rx.sepBy]
  | y :: z :: r => by
    have ih := sepBy_snoc t x (z :: r)
    simp only [List.cons_append, Rx.sepBy] at ih ⊢
    rw [ih]
    simp

theorem sepBy_app_le (t : Rx.Bytes) (b : List Rx.Bytes) : ∀ a : List Rx.Bytes, (Rx.sepBy t a).length ≤ (Rx.sepBy t (a ++ b)).length
  | [] => by simp [Rx.sepBy]
  | [y] => by
    cases b with
    | nil => simp
    | cons z r => simp [Rx.sepBy]
  | y :: z :: r => by
    have ih := sepBy_app_le t b (z :: r)
    simp only [List.cons_append, Rx.sepBy, List.length_append] at ih ⊢
    omega

/-- What stands between. -/
def sepAt (t : Rx.Bytes) (i : Nat) : Rx.Bytes := if i = 0 then [] else t

set_option maxHeartbeats 3200000 in
set_option maxRecDepth 100000 in
theorem rtext_list (p k c : Nat) (kind : Int) (mk : List Rx.Nd → Rx.Nd) (hk : Kind2 kind mk) (l : List Rx.Nd) (ps : List Nat) (w : World) (hb : Blk w p (ndCells kind noHas 0 0 (.slice (some ⟨k, 0, none⟩) l.length c)) 68)
    (hc : l.length ≤ c ∧ l.length ≤ 1073741824) (hpl : ps.length = l.length) (hps : Ptrs w k ps)
    (hn : ∀ i, i < l.length → ∀ w', Below w.heap.size w w' → RTextC (l.getD i .empty) (ps.getD i 0) w') (hl : (mk l).told.length ≤ 140737488355000) : RTextC (mk l) p w := by
  obtain ⟨sep, hsep, hse, hk2⟩ : ∃ sep : Rx.Bytes, (mk l).told = 40 :: Rx.sepBy sep (Rx.tolds l) ++ [41] ∧ sep.length ≤ 1 ∧ ((kind = 4 ∧ sep = []) ∨ (kind = 5 ∧ sep = [124])) := by
    cases hk with
    | cat => exact ⟨[], by simp [Rx.Nd.told], by simp, .inl ⟨rfl, rfl⟩⟩
    | alt => exact ⟨[124], by simp [Rx.Nd.told], by simp, .inr ⟨rfl, rfl⟩⟩
  have c0 := hb.cell 0 (nd_kind _ _ _ _ _)
  have c3 := hb.cell 259 (nd_kids _ _ _ _ _)
  have hpw := hb.lt
  have HB := Lib.hid hb
  have HPS := Lib.hid hps
  have HN := Lib.hid hn
  unfold RTextC
  rw [hsep]
  rw [hsep] at hl
  have htl := tolds_len l
  have HTG := Lib.hid (tolds_get l)
  clear hb hps hn hsep
  generalize Rx.tolds l = T at *
  have hl2 : (Rx.sepBy sep T).length ≤ 140737488354998 := by simp at hl; omega
  have HLE : Hid (∀ i, (Rx.sepBy sep (T.take i)).length ≤ (Rx.sepBy sep T).length) := fun i => by
    have := sepBy_app_le sep (T.drop i) (T.take i)
    rwa [List.take_append_drop] at this
  have h0 : ¬ kind = 0 := by omega
  have h1 : ¬ kind = 1 := by omega
  have h2 : ¬ kind = 2 := by omega
  have h3 : ¬ kind = 3 := by omega
  have h6 : ¬ kind = 6 := by omega
  have HK2 := Lib.hid hk2
  have HSE := Lib.hid hse
  clear hk2 hse hk
  have g0 : (kind == 0) = false := by simpa using h0
  have g1 : (kind == 1) = false := by simpa using h1
  have g2 : (kind == 2) = false := by simpa using h2
  have g3 : (kind == 3) = false := by simpa using h3
  have g6 : (kind == 6) = false := by simpa using h6
  go_enter Tryz.func20, Tryz.ntmps20
  go_wp2_with fail
  try simp only [g0, g1, g2, g3, g6]
  go_loopw [3, 4, 7] (fun x3 x4 x7 wr => ∃ i : Nat, i ≤ l.length ∧ x3 = .string ⟨(Rx.sepBy sep (T.take i)).toArray⟩ ∧ x4 = .string ⟨(sepAt sep i).toArray⟩ ∧ x7 = .int .i64 i ∧ Below w.heap.size w wr) (fun _ _ x7 _ => l.length - (intOf x7).toNat)
  case atStart => exact ⟨0, Nat.zero_le _, rfl, rfl, rfl, Below.refl _ _⟩
  case round =>
    obtain ⟨i, hi', rfl, rfl, rfl, hbw⟩ := hrel
    by_cases hlt : i < l.length
    · have cq : wr.cell? ⟨k, i, none⟩ = some (.pointer (some ⟨ps.getD i 0, 0, none⟩)) := by
        have := HPS.out i (by omega)
        rw [hbw.cell (p := ⟨k, i, none⟩) (World.block_lt_of_cell? _ _ this)]
        exact this
      have cr3 : wr.cell? ⟨p, 259, none⟩ = some (.slice (some ⟨k, 0, none⟩) l.length c) := by rw [hbw.cell (p := ⟨p, 259, none⟩) hpw]; exact c3
      have hcall := HN.out i hlt wr hbw
      have hT := HTG.out i hlt
      unfold RTextC at hcall
      rw [hT] at hcall
      have HTK : Hid (Rx.sepBy sep (T.take (i + 1)) = Rx.sepBy sep (T.take i) ++ sepAt sep i ++ T.getD i []) := by
        have h1 : T.take (i + 1) = T.take i ++ [T.getD i []] := by
          rw [List.take_succ_eq_append_getElem (by omega)]
          simp [List.getD_eq_getElem?_getD, List.getElem?_eq_getElem (show i < T.length by omega)]
        show _ = _
        rw [h1, sepBy_snoc]
        congr 2
        unfold sepAt
        by_cases h0 : i = 0
        · subst h0; simp
        · rw [if_neg h0, if_neg (by
            intro e
            have := congrArg List.length e
            rw [List.length_take, List.length_nil] at this
            omega)]
      have hle1 := HLE.out (i + 1)
      rw [HTK.out] at hle1
      simp only [List.length_append] at hle1
      generalize T.getD i [] = tx at *
      generalize ps.getD i 0 = q at *
      obtain ⟨A, hA⟩ : ∃ A, A = Rx.sepBy sep (T.take i) := ⟨_, rfl⟩
      obtain ⟨S, hS⟩ : ∃ S, S = sepAt sep i := ⟨_, rfl⟩
      rw [← hA, ← hS] at HTK hle1 ⊢
      have e1 : (⟨A.toArray⟩ : ByteArray) ++ ⟨S.toArray⟩ = ⟨(A ++ S).toArray⟩ := by apply ByteArray.ext; simp
      have e2 : (⟨(A ++ S).toArray⟩ : ByteArray) ++ ⟨tx.toArray⟩ = ⟨(A ++ S ++ tx).toArray⟩ := by apply ByteArray.ext; simp
      have HBW := Lib.hid hbw
      have l1 : (9223372036854775807 < A.length + S.length) = False := by simp; omega
      have l2 : (9223372036854775807 < A.length + S.length + tx.length) = False := by simp; omega
      have l3 : (9223372036854775807 < A.length + (S.length + tx.length)) = False := by simp; omega
      have HS := Lib.hid hS
      clear hT hbw hA hS
      go_wp2_with fail
      refine hcall.mono ?_
      rintro e w3 ⟨rfl, hb3⟩
      have hszr := HBW.out.size
      have HB3 : Hid (Below w.heap.size w w3) := HBW.out.trans (hb3.mono hszr)
      have c0' : w3.cell? ⟨p, 0, none⟩ = some (.int .i64 kind) := by rw [HB3.out.cell (p := ⟨p, 0, none⟩) hpw]; exact c0
      clear c0 hb3 hcall
      rcases HK2.out with ⟨rfl, rfl⟩ | ⟨rfl, rfl⟩
      · go_wp2_with fail
        refine ⟨⟨i + 1, by omega, by rw [HTK.out, List.append_assoc], by rw [HS.out]; unfold sepAt; split <;> simp, by go_num, HB3.out⟩, ?_⟩
        show l.length - ((i : Int) + 1).toNat < l.length - (i : Int).toNat
        omega
      · go_wp2_with fail
        refine ⟨⟨i + 1, by omega, by rw [HTK.out, List.append_assoc], rfl, by go_num, HB3.out⟩, ?_⟩
        show l.length - ((i : Int) + 1).toNat < l.length - (i : Int).toNat
        omega
    · obtain rfl : i = l.length := by omega
      have cr3 : wr.cell? ⟨p, 259, none⟩ = some (.slice (some ⟨k, 0, none⟩) l.length c) := by rw [hbw.cell (p := ⟨p, 259, none⟩) hpw]; exact c3
      rw [List.take_of_length_le (by omega)]
      generalize hTX : Rx.sepBy sep T = tx at *
      have e1 : (⟨#[40]⟩ : ByteArray) ++ ⟨tx.toArray⟩ = ⟨(40 :: tx).toArray⟩ := by apply ByteArray.ext; simp
      have e2 : (⟨(40 :: tx).toArray⟩ : ByteArray) ++ ⟨#[41]⟩ = ⟨(40 :: tx ++ [41]).toArray⟩ := by apply ByteArray.ext; simp
      have HBW := Lib.hid hbw
      have HTX := Lib.hid hTX
      clear hbw hTX
      go_wp2_with fail
      go_ret
      refine ⟨ret_str ?_, HBW.out⟩
      rw [HTX.out]

end Go.Proofs.YthdkbbkkijdhfaaGreatDoor
