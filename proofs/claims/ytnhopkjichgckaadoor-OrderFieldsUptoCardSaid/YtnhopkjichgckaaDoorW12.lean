/-
  The walks of Keys and Compare. Conditions: the lines and the order lie in memory as they are told; each key's numbers are within their bounds.
-/
import Derived.Test.YtnhopkjichgckaaDoorW5
import Derived.Test.YtnhopkjichgckaaDoorW10
import Derived.Test.YtnhopkjichgckaaDoorW11
import Derived.Lib.QuietBelow
namespace Go.Proofs.YtnhopkjichgckaaDoor
open Go.RowKit Go.Shelf Go.Sort

theorem pieceVal_is (sep : Int) (b : Ord.Bytes) (p : Option Addr) (cap : Nat) (hc : b.length ≤ cap) (k : Ord.Key) :
    ∃ p' c', pieceVal sep b p cap k = .slice p' (Ord.piece sep b k).length c' ∧ ∀ w, Bs w p b → Bs w p' (Ord.piece sep b k) := by
  have hT : Ord.pieceTo sep b k ≤ b.length := by
    unfold Ord.pieceTo
    split
    · split
      · omega
      · rename_i a e h
        have := (field_bd sep b _ 0 a e (Nat.zero_le _) h).2
        split
        · omega
        · omega
    · omega
  have hF : 0 ≤ Ord.pieceFrom sep b k := by
    unfold Ord.pieceFrom
    split <;> omega
  unfold pieceVal Ord.piece
  generalize Ord.pieceTo sep b k = T at *
  generalize Ord.pieceFrom sep b k = F at *
  by_cases h : T ≤ F
  · rw [if_pos h, if_pos h]
    exact ⟨none, 0, rfl, fun w _ => Bs.nil w _⟩
  · rw [if_neg h, if_neg h]
    refine ⟨cutP p cap F.toNat, cap - F.toNat, ?_, fun w hb => hb.cut hc (by omega) _⟩
    congr 1
    simp; omega

theorem piece_len (sep : Int) (b : Ord.Bytes) (k : Ord.Key) : (Ord.piece sep b k).length ≤ b.length := by
  unfold Ord.piece
  split
  · simp
  · simp; omega

theorem numbers_bd (a b : Ord.Bytes) : -1 ≤ Ord.numbers a b ∧ Ord.numbers a b ≤ 1 := by
  unfold Ord.numbers
  have h1 := numOf_one a
  have h2 := cmpInt_bd (Ord.numOf a).1 (Ord.numOf b).1
  have h3 := cmpInt_bd (Ord.numOf a).2.length (Ord.numOf b).2.length
  have h4 := cmpBytes_bd (Ord.numOf a).2 (Ord.numOf b).2
  simp only
  split
  · exact h2
  · split
    · rcases h1 with h | h <;> rw [h] <;> omega
    · rcases h1 with h | h <;> rw [h] <;> omega

def byKey0 (sep : Int) (k : Ord.Key) (a b : Ord.Bytes) : Int := if Ord.has k.fl 32 then Ord.numbers (Ord.piece sep a k) (Ord.piece sep b k) else Ord.texts k.fl (Ord.piece sep a k) (Ord.piece sep b k)
theorem byKey0_bd (sep : Int) (k : Ord.Key) (a b : Ord.Bytes) : -1 ≤ byKey0 sep k a b ∧ byKey0 sep k a b ≤ 1 := by
  unfold byKey0
  split
  · exact numbers_bd _ _
  · exact cmpBytes_bd _ _

theorem KeysAt.get {w : World} {base : Nat} {v : Value} {ks : List Ord.Key} (h : KeysAt w base v ks) : ks.length ≤ 9223372036854775807 ∧ ∃ p c, v = .slice p ks.length c ∧ ∀ (j : Nat) (k : Ord.Key), ks[j]? = some k → ∃ g kb, p = some ⟨g, 0, none⟩ ∧ w.cell? ⟨g, j, none⟩ = some (ptr kb) ∧ KeyAt w kb k := by
  obtain ⟨kbs, h1, h2, h3⟩ := h
  obtain ⟨p, c, rfl, _, hnc⟩ := owns_slice' h2
  have hlen : kbs.length ≤ 9223372036854775807 := by
    rcases h2.2 with ⟨_, h0⟩ | ⟨g, cap, cur, hv, _, _, hn, hm, _⟩
    · omega
    · have : maxLen = 9223372036854775807 := by decide
      omega
  refine ⟨by omega, p, c, by rw [h1], fun j k hk => ?_⟩
  have hj : j < ks.length := (List.getElem?_eq_some_iff.1 hk).1
  have hkb : kbs[j]? = some (kbs[j]'(by omega)) := List.getElem?_eq_getElem (by omega)
  cases p with
  | none =>
    rcases h2.2 with ⟨_, h0⟩ | ⟨g, cap, cur, hv, _⟩
    · omega
    · simp at hv
  | some a =>
    obtain ⟨g, rfl⟩ : ∃ g, a = ⟨g, 0, none⟩ := by
      rcases h2.2 with ⟨hv, h0⟩ | ⟨g, cap, cur, hv, _⟩
      · omega
      · simp at hv; exact ⟨g, hv.1⟩
    refine ⟨g, _, rfl, ?_, (h3 j _ k hkb hk).1⟩
    rw [World.ownsRow.cellAt h2 j (by omega), List.getElem?_map, hkb]; rfl

theorem keysCmp_step (sep : Int) (a b : Ord.Bytes) (ks : List Ord.Key) (j : Nat) (k : Ord.Key) (h : ks[j]? = some k) : Ord.keysCmp sep a b (ks.drop j) = if Ord.byKey sep k a b ≠ 0 then Ord.byKey sep k a b else Ord.keysCmp sep a b (ks.drop (j + 1)) := by
  obtain ⟨hj, rfl⟩ := List.getElem?_eq_some_iff.1 h
  rw [List.drop_eq_getElem_cons hj]; rfl

set_option maxHeartbeats 3200000 in
set_option maxRecDepth 100000 in
theorem Keys_any (ob : Nat) (o : Ord.Ordr) (hfit : ∀ k ∈ o.keys, FitKey k) (hs0 : -1 ≤ o.sep) (hs1 : o.sep < 256) (a b : Ord.Bytes) (p q : Option Addr) (c d : Nat) (w : World) (ho : OrderAt w ob o)
    (ha : Bs w p a) (hb : Bs w q b) (hp : p = none → c = 0) (hq : q = none → d = 0) (hc : a.length ≤ c) (hd : b.length ≤ d) (hla : a.length ≤ 140737488351232) (hlb : b.length ≤ 140737488351232) :
    Calls Tryd.prog 10 #[.pointer (some ⟨ob, 0, none⟩), .slice p a.length c, .slice q b.length d] w fun e w' => e = .returned (.int .i64 (Ord.keysCmp o.sep a b o.keys)) ∧ Below w.heap.size w w' := by
  obtain ⟨fl, sep, ks⟩ := o
  simp only at hfit hs0 hs1 ⊢
  obtain ⟨kv, hob, hks⟩ := ho
  simp only at hob hks
  obtain ⟨hkl, kp, kc, rfl, hget⟩ := hks.get
  have o2 : w.cell? ⟨ob, 2, none⟩ = some (.slice kp ks.length kc) := Blk.cell hob 2 rfl
  have o1 : w.cell? ⟨ob, 1, none⟩ = some (.int .i64 sep) := Blk.cell hob 1 rfl
  have HGET := Lib.hid hget
  clear hget hks
  go_enter Tryd.func10, Tryd.ntmps10
  go_wp2_with fail
  go_loopw [8, 9, 15] (fun _x8 _x9 i wr => ∃ j : Nat, j ≤ ks.length ∧ Ord.keysCmp sep a b ks = Ord.keysCmp sep a b (ks.drop j) ∧ i = .int .i64 j ∧ Below w.heap.size w wr) (fun _ _ i _ => ks.length - (intOf i).toNat)
  case atStart => exact ⟨0, Nat.zero_le _, rfl, rfl, Below.refl _ _⟩
  case round =>
    obtain ⟨j, hj, hkj, rfl, hbw⟩ := hrel
    have HKJ := Lib.hid hkj; clear hkj
    have HBW := Lib.hid hbw; clear hbw
    by_cases hlt : j < ks.length
    · obtain ⟨k, hk⟩ : ∃ k, ks[j]? = some k := ⟨_, List.getElem?_eq_getElem hlt⟩
      have hfk := hfit k (List.mem_of_getElem? hk)
      obtain ⟨g, kb, rfl, hg, hka⟩ := HGET.out j k hk
      have hgl : g < w.heap.size := World.block_lt_of_cell? _ _ hg
      have hkl' : kb < w.heap.size := Blk.lt hka
      have HSTEP := Lib.hid (keysCmp_step sep a b ks j k hk)
      clear hk
      have hg' : wr.cell? ⟨g, j, none⟩ = some (ptr kb) := by rw [HBW.out.cell (p := ⟨g, j, none⟩) hgl]; exact hg
      unfold ptr at hg'
      have hka' : KeyAt wr kb k := Blk.keep hka HBW.out hkl'
      have k4 : wr.cell? ⟨kb, 4, none⟩ = some (.int .i64 k.fl) := Blk.cell hka' 4 rfl
      have k3 : wr.cell? ⟨kb, 5, none⟩ = some (cmpFn kb k.fl) := Blk.cell hka' 5 rfl
      have hobl : ob < w.heap.size := hob.lt
      have hpa : ∀ D os, Calls Tryd.prog 19 #[.pointer (some ⟨ob, 0, none⟩), .slice p a.length c, .pointer (some ⟨kb, 0, none⟩)] (grow (redrawn wr D) os) fun e w'' => e = .returned (pieceVal sep a p c k) ∧ ∃ r : Regrown, w'' = grow (redrawn wr r.d) r.os := fun D os => by
        have hbb := below_regrown wr D os
        have hb2 := HBW.out.trans (hbb.mono HBW.out.size)
        refine Calls.regrown_of ((piece_any ob kb sep hs0 hs1 k hfk a p c _ ?_ (Blk.keep hka hb2 hkl') (ha.below hb2 (Nat.le_refl _)) hp hc hla).mono fun e w'' ⟨h1, h2⟩ => ⟨h1, h2.below⟩)
        rw [hb2.cell (p := ⟨ob, 1, none⟩) hobl]; exact o1
      have hpb : ∀ D os, Calls Tryd.prog 19 #[.pointer (some ⟨ob, 0, none⟩), .slice q b.length d, .pointer (some ⟨kb, 0, none⟩)] (grow (redrawn wr D) os) fun e w'' => e = .returned (pieceVal sep b q d k) ∧ ∃ r : Regrown, w'' = grow (redrawn wr r.d) r.os := fun D os => by
        have hbb := below_regrown wr D os
        have hb2 := HBW.out.trans (hbb.mono HBW.out.size)
        refine Calls.regrown_of ((piece_any ob kb sep hs0 hs1 k hfk b q d _ ?_ (Blk.keep hka hb2 hkl') (hb.below hb2 (Nat.le_refl _)) hq hd hlb).mono fun e w'' ⟨h1, h2⟩ => ⟨h1, h2.below⟩)
        rw [hb2.cell (p := ⟨ob, 1, none⟩) hobl]; exact o1
      obtain ⟨p1, c1, e1, hbs1⟩ := pieceVal_is sep a p c hc k
      obtain ⟨p2, c2, e2, hbs2⟩ := pieceVal_is sep b q d hd k
      rw [e1] at hpa
      rw [e2] at hpb
      clear e1 e2
      have hl1 := Nat.le_trans (piece_len sep a k) hla
      have hl2 := Nat.le_trans (piece_len sep b k) hlb
      have hcn : Ord.has k.fl 32 = true → ∀ D os, Calls Tryd.prog 23 #[.slice p1 (Ord.piece sep a k).length c1, .slice p2 (Ord.piece sep b k).length c2] (grow (redrawn wr D) os) fun e w'' => e = .returned (.int .i64 (byKey0 sep k a b)) ∧ ∃ r : Regrown, w'' = grow (redrawn wr r.d) r.os := fun h D os => by
        have hbb := below_regrown wr D os
        have hb2 := HBW.out.trans (hbb.mono HBW.out.size)
        refine Calls.regrown_of ((numbers_any _ _ p1 p2 c1 c2 _ (hbs1 _ (ha.below hb2 (Nat.le_refl _))) (hbs2 _ (hb.below hb2 (Nat.le_refl _))) hl1 hl2).mono fun e w'' ⟨h1, h2⟩ => ⟨?_, h2⟩)
        rw [h1]; unfold byKey0; rw [if_pos h]
      have hct : Ord.has k.fl 32 = false → ∀ D os, Calls Tryd.prog 22 #[.pointer (some ⟨kb, 0, none⟩), .slice p1 (Ord.piece sep a k).length c1, .slice p2 (Ord.piece sep b k).length c2] (grow (redrawn wr D) os) fun e w'' => e = .returned (.int .i64 (byKey0 sep k a b)) ∧ ∃ r : Regrown, w'' = grow (redrawn wr r.d) r.os := fun h D os => by
        have hbb := below_regrown wr D os
        have hb2 := HBW.out.trans (hbb.mono HBW.out.size)
        refine Calls.regrown_of ((texts_any kb k _ _ p1 p2 c1 c2 _ (Blk.keep hka hb2 hkl') (hbs1 _ (ha.below hb2 (Nat.le_refl _))) (hbs2 _ (hb.below hb2 (Nat.le_refl _))) hl1 hl2).mono fun e w'' ⟨h1, h2⟩ => ⟨?_, h2⟩)
        rw [h1]; unfold byKey0; rw [if_neg (by rw [h]; decide)]
      clear hbs1 hbs2 hka' hka
      have o2' : wr.cell? ⟨ob, 2, none⟩ = some (.slice (some ⟨g, 0, none⟩) ks.length kc) := by rw [HBW.out.cell (p := ⟨ob, 2, none⟩) hobl]; exact o2
      have HV : Hid (Ord.byKey sep k a b = if Ord.has k.fl 64 then - byKey0 sep k a b else byKey0 sep k a b) := rfl
      have hbd := byKey0_bd sep k a b
      generalize byKey0 sep k a b = n at *
      generalize Ord.byKey sep k a b = nn at *
      generalize (Ord.piece sep a k).length = l1 at *
      generalize (Ord.piece sep b k).length = l2 at *
      generalize k.fl = kfl at *
      have HCN := Lib.hid hcn; have HCT := Lib.hid hct
      clear hcn hct hl1 hl2 ha hb hob
      go_wp2_with fail
      cases hh : Ord.has kfl 32 with
      | true =>
        have hcc := HCN.out hh
        have hfn : cmpFn kb kfl = .func (.func 23) #[] #[] := by unfold cmpFn; rw [if_pos hh]
        rw [hfn] at k3
        clear hfn hh
        have kk := cell_regrown k3
        refine wp_region_quiet_below (by kernel_rfl) (by kernel_rfl) ?_
        repeat (quiet_step (first | with_reducible exact hpa _ _ | with_reducible exact hpb _ _ | with_reducible exact hcc _ _))
        refine wpQuiet_nil ?_
        intro _ hw'
        obtain ⟨⟨dq, osq⟩, hw''⟩ := hw'
        subst hw''
        have k4' := cell_regrown k4 dq osq
        have hbb := below_regrown wr dq osq
        have HBB := Lib.hid (HBW.out.trans (hbb.mono HBW.out.size))
        generalize grow (redrawn wr dq) osq = w2 at *
        clear kk k3 k4 hpa hpb hcc hbb
        cases hr : Ord.has kfl 64 with
        | true =>
          have hr' : (bits .and .i64 kfl 64 != 0) = true := hr
          have HN : Hid (nn = -n) := by show nn = -n; rw [HV.out, if_pos hr]
          clear hr
          by_cases hn0 : n = 0
          · subst hn0
            go_wp2_with fail
            refine ⟨⟨j + 1, by omega, ?_, by go_num, HBB.out⟩, ?_⟩
            · rw [HKJ.out, HSTEP.out, if_neg (by rw [HN.out]; simp)]
            · show ks.length - ((j : Int) + 1).toNat < ks.length - (j : Int).toNat
              omega
          · have hn' : ((-n) != 0) = true := by rw [bne_iff_ne]; omega
            have HN0 := Lib.hid hn0; clear hn0
            go_wp2_with fail
            go_ret
            refine ⟨ret_int ?_, HBB.out⟩
            rw [HKJ.out, HSTEP.out, if_pos (by rw [HN.out]; have := HN0.out; omega), HN.out]
        | false =>
          have hr' : (bits .and .i64 kfl 64 != 0) = false := hr
          have HN : Hid (nn = n) := by show nn = n; rw [HV.out, if_neg (by rw [hr]; decide)]
          clear hr
          by_cases hn0 : n = 0
          · subst hn0
            go_wp2_with fail
            refine ⟨⟨j + 1, by omega, ?_, by go_num, HBB.out⟩, ?_⟩
            · rw [HKJ.out, HSTEP.out, if_neg (by rw [HN.out]; simp)]
            · show ks.length - ((j : Int) + 1).toNat < ks.length - (j : Int).toNat
              omega
          · have hn' : (n != 0) = true := by rw [bne_iff_ne]; omega
            have HN0 := Lib.hid hn0; clear hn0
            go_wp2_with fail
            go_ret
            refine ⟨ret_int ?_, HBB.out⟩
            rw [HKJ.out, HSTEP.out, if_pos (by rw [HN.out]; have := HN0.out; omega), HN.out]
      | false =>
        have hcc := HCT.out hh
        have hfn : cmpFn kb kfl = .func (.func 22) #[.pointer (some ⟨kb, 0, none⟩)] #[] := by unfold cmpFn; rw [if_neg (by rw [hh]; decide)]
        rw [hfn] at k3
        clear hfn hh
        have kk := cell_regrown k3
        refine wp_region_quiet_below (by kernel_rfl) (by kernel_rfl) ?_
        repeat (quiet_step (first | with_reducible exact hpa _ _ | with_reducible exact hpb _ _ | with_reducible exact hcc _ _))
        refine wpQuiet_nil ?_
        intro _ hw'
        obtain ⟨⟨dq, osq⟩, hw''⟩ := hw'
        subst hw''
        have k4' := cell_regrown k4 dq osq
        have hbb := below_regrown wr dq osq
        have HBB := Lib.hid (HBW.out.trans (hbb.mono HBW.out.size))
        generalize grow (redrawn wr dq) osq = w2 at *
        clear kk k3 k4 hpa hpb hcc hbb
        cases hr : Ord.has kfl 64 with
        | true =>
          have hr' : (bits .and .i64 kfl 64 != 0) = true := hr
          have HN : Hid (nn = -n) := by show nn = -n; rw [HV.out, if_pos hr]
          clear hr
          by_cases hn0 : n = 0
          · subst hn0
            go_wp2_with fail
            refine ⟨⟨j + 1, by omega, ?_, by go_num, HBB.out⟩, ?_⟩
            · rw [HKJ.out, HSTEP.out, if_neg (by rw [HN.out]; simp)]
            · show ks.length - ((j : Int) + 1).toNat < ks.length - (j : Int).toNat
              omega
          · have hn' : ((-n) != 0) = true := by rw [bne_iff_ne]; omega
            have HN0 := Lib.hid hn0; clear hn0
            go_wp2_with fail
            go_ret
            refine ⟨ret_int ?_, HBB.out⟩
            rw [HKJ.out, HSTEP.out, if_pos (by rw [HN.out]; have := HN0.out; omega), HN.out]
        | false =>
          have hr' : (bits .and .i64 kfl 64 != 0) = false := hr
          have HN : Hid (nn = n) := by show nn = n; rw [HV.out, if_neg (by rw [hr]; decide)]
          clear hr
          by_cases hn0 : n = 0
          · subst hn0
            go_wp2_with fail
            refine ⟨⟨j + 1, by omega, ?_, by go_num, HBB.out⟩, ?_⟩
            · rw [HKJ.out, HSTEP.out, if_neg (by rw [HN.out]; simp)]
            · show ks.length - ((j : Int) + 1).toNat < ks.length - (j : Int).toNat
              omega
          · have hn' : (n != 0) = true := by rw [bne_iff_ne]; omega
            have HN0 := Lib.hid hn0; clear hn0
            go_wp2_with fail
            go_ret
            refine ⟨ret_int ?_, HBB.out⟩
            rw [HKJ.out, HSTEP.out, if_pos (by rw [HN.out]; have := HN0.out; omega), HN.out]
    · obtain rfl : j = ks.length := by omega
      go_wp2_with fail
      go_ret
      refine ⟨ret_int ?_, HBW.out⟩
      rw [HKJ.out, List.drop_length]; rfl

set_option maxHeartbeats 3200000 in
set_option maxRecDepth 100000 in
theorem Compare_any (ob : Nat) (o : Ord.Ordr) (hfit : ∀ k ∈ o.keys, FitKey k) (hs0 : -1 ≤ o.sep) (hs1 : o.sep < 256) (a b : Ord.Bytes) (p q : Option Addr) (c d : Nat) (w : World) (ho : OrderAt w ob o)
    (ha : Bs w p a) (hb : Bs w q b) (hp : p = none → c = 0) (hq : q = none → d = 0) (hc : a.length ≤ c) (hd : b.length ≤ d) (hla : a.length ≤ 140737488351232) (hlb : b.length ≤ 140737488351232) :
    Calls Tryd.prog 9 #[.pointer (some ⟨ob, 0, none⟩), .slice p a.length c, .slice q b.length d] w fun e w' => e = .returned (.int .i64 (Ord.compare o a b)) ∧ Below w.heap.size w w' := by
  have hkeys := Keys_any ob o hfit hs0 hs1 a b p q c d w ho ha hb hp hq hc hd hla hlb
  have hobl : ob < w.heap.size := ho.choose_spec.1.lt
  have o0 : w.cell? ⟨ob, 0, none⟩ = some (.int .i64 o.fl) := Blk.cell ho.choose_spec.1 0 rfl
  clear ho
  have HV : Hid (Ord.compare o a b = if Ord.keysCmp o.sep a b o.keys ≠ 0 then Ord.keysCmp o.sep a b o.keys else if Ord.has o.fl 64 then - Ord.cmpBytes a b else Ord.cmpBytes a b) := rfl
  generalize Ord.keysCmp o.sep a b o.keys = n at *
  generalize Ord.compare o a b = r at *
  go_enter Tryd.func9, Tryd.ntmps9
  go_wp2_with fail
  refine hkeys.mono ?_
  rintro e w1 ⟨rfl, hb1⟩
  have o0' : w1.cell? ⟨ob, 0, none⟩ = some (.int .i64 o.fl) := by rw [hb1.cell (p := ⟨ob, 0, none⟩) hobl]; exact o0
  have ha1 := ha.below hb1 (Nat.le_refl _)
  have hb1' := hb.below hb1 (Nat.le_refl _)
  have HB1 := Lib.hid hb1
  clear hb1 o0 ha hb hkeys
  generalize o.fl = fl at *
  by_cases hn0 : n = 0
  · subst hn0
    go_wp2_with fail
    refine (bcmp_any w1 p q a b c d ha1 hb1').mono ?_
    rintro e w2 ⟨rfl, rfl⟩
    have hbd := cmpBytes_bd a b
    generalize Ord.cmpBytes a b = m at *
    cases hr : Ord.has fl 64 with
    | true =>
      have hr' : (bits .and .i64 fl 64 != 0) = true := hr
      have HR := Lib.hid hr; clear hr
      go_wp2_with fail
      go_ret
      refine ⟨ret_int ?_, HB1.out⟩
      rw [HV.out, if_neg (by simp), if_pos HR.out]
    | false =>
      have hr' : (bits .and .i64 fl 64 != 0) = false := hr
      have HR := Lib.hid hr; clear hr
      go_wp2_with fail
      go_ret
      refine ⟨ret_int ?_, HB1.out⟩
      rw [HV.out, if_neg (by simp), if_neg (by rw [HR.out]; decide)]
  · have hn' : (n != 0) = true := by rw [bne_iff_ne]; exact hn0
    have HN0 := Lib.hid hn0; clear hn0
    go_wp2_with fail
    go_ret
    refine ⟨ret_int ?_, HB1.out⟩
    rw [HV.out, if_pos HN0.out]

end Go.Proofs.YtnhopkjichgckaaDoor
