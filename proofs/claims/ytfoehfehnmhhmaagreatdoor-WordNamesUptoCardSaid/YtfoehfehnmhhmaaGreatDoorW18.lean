/-
  The walk of plain. Condition: lengths.
-/
import Derived.Test.YtfoehfehnmhhmaaGreatDoorW17
namespace Go.Proofs.YtfoehfehnmhhmaaGreatDoor
open Go.RowKit Go.Shelf Go.Maps

theorem eachF_snoc (a : Wd.Bytes) : ∀ (l : List Wd.Bytes) (f : Bool), Wd.eachF f (l ++ [a]) = Wd.eachF f l ++ ((if (f = true ∧ l = []) then [] else [.gap]) ++ [.mark] ++ Wd.chars a true false) := by
  intro l
  induction l with
  | nil => intro f; cases f <;> simp [Wd.eachF]
  | cons b r ih =>
    intro f
    rw [List.cons_append, Wd.eachF, Wd.eachF, ih]
    simp [List.append_assoc]
theorem eachF_take {l : List Wd.Bytes} {i : Nat} (hi : i < l.length) : Wd.eachF true (l.take (i + 1)) = Wd.eachF true (l.take i) ++ ((if i = 0 then [] else [.gap]) ++ [.mark] ++ Wd.chars (l.getD i []) true false) := by
  rw [List.take_succ_eq_append_getElem hi, eachF_snoc]
  have h1 : l.getD i [] = l[i] := by simp [List.getD_eq_getElem?_getD, List.getElem?_eq_getElem hi]
  rw [h1]
  congr 3
  by_cases h0 : i = 0
  · subst h0; simp
  · rw [if_neg h0, if_neg]
    rintro ⟨-, h⟩
    have := congrArg List.length h
    simp at this
    rcases this with h | h
    · exact h0 h
    · rw [h] at hi; simp at hi
theorem eachF_pre {l : List Wd.Bytes} (i : Nat) : (Wd.eachF true (l.take i)).length ≤ (Wd.eachF true l).length := by
  have key : ∀ (a b : List Wd.Bytes) (f : Bool), (Wd.eachF f a).length ≤ (Wd.eachF f (a ++ b)).length := by
    intro a
    induction a with
    | nil => intro b f; simp [Wd.eachF]
    | cons c r ih => intro b f; simp only [List.cons_append, Wd.eachF, List.length_append]; have := ih b false; omega
  have := key (l.take i) (l.drop i) true
  rwa [List.take_append_drop] at this

theorem getV_len {w : World} {B : Nat} {v : Value} {l : List Wd.Bytes} (h : StrsAt w B v l) (n : Wd.Bytes) : (getV l n).1.length < 1073741824 := by
  cases hx : Wd.place l n with
  | none => rw [getV_none hx]; simp
  | some i =>
    rw [getV_some hx]
    have h1 := (place_some hx).1
    have h2 := h.each (l.getD i []) (by rw [List.getD_eq_getElem?_getD, List.getElem?_eq_getElem h1]; simp)
    simp only [List.length_drop]
    omega
theorem digits_len : ∀ c : Nat, c < 256 → (Wd.digits c).length ≤ 3 := by decide +kernel
theorem value_len {w : World} {b : Nat} {vv av v : Value} {x : Wd.Ex} {p s : Wd.Bytes} {f : Bool} (h : ExAt w b vv av x v) (hv : x.value p = some (s, f)) : s.length < 1073741824 := by
  by_cases h0 : 0 < Wd.named p
  · rw [Ex_value_named h0] at hv
    have := getV_len h.vars p
    rw [Option.some.inj hv] at this
    exact this
  · unfold Wd.Ex.value at hv
    rw [if_neg h0] at hv
    split at hv
    · rename_i h1
      obtain rfl : Wd.digits x.own.length = s := by cases hv; rfl
      have := digits_len x.own.length h1.2
      omega
    · cases hv

set_option maxHeartbeats 6400000 in
set_option maxRecDepth 100000 in
theorem plain_any (w : World) (b : Nat) (vv av v : Value) (x y : Wd.Ex) (p : Wd.Bytes) (inq : Bool) (h : ExAt w b vv av x v) (hg : Glo w) (h8 : 8 ≤ b) (hl : x.l.length ≤ 1073741824) (hp : p.length < 1073741824) (hy : x.plain p inq = some y) :
    Calls Tryz.prog 61 #[.pointer (some ⟨b, 0, none⟩), .string ⟨p.toArray⟩, .bool inq] w fun e w' => e = .returned (.tuple #[]) ∧ ∃ v', ExIs w w' b vv av y v v' := by
  have hblt := h.blk.lt
  unfold Wd.Ex.plain at hy
  by_cases hc : p = [64] ∧ inq = true ∧ x.one = false
  · rw [if_pos hc] at hy
    obtain ⟨rfl, rfl, h1⟩ := hc
    have hE : (Wd.eachF true x.own).length ≤ 1073741824 := by
      split at hy
      · cases hy
      · rename_i hh; exact Nat.le_of_not_lt hh
    have hy2 : x.add (Wd.eachF true x.own) = y := by
      split at hy
      · cases hy
      · exact Option.some.inj hy
    clear hy
    have HY := Lib.hid hy2
    clear hy2
    have c4 : w.cell? ⟨b, 4, none⟩ = some (.bool false) := by rw [← h1]; exact h.blk.cell 4 rfl
    have HO := own_any w b vv av v x h
    have HAT := Lib.hid h
    have HG := Lib.hid hg
    obtain ⟨i0, hi0, hz0, hz1, hz2⟩ := info_parts info_unit
    clear h h1 hg
    go_enter Tryz.func61, Tryz.ntmps61
    go_wp2_with fail
    refine HO.mono ?_
    rintro e w2 ⟨⟨v7, rfl, hst, pp, cc, rfl⟩, rfl⟩
    have HST := Lib.hid hst
    clear hst HO
    obtain ⟨n, hn⟩ : ∃ n, x.own.length = n := ⟨_, rfl⟩
    have HN := Lib.hid hn
    have hnb : n < 1073741824 := by rw [← hn]; exact HST.out.len
    rw [hn]
    clear hn
    go_wp2_with fail
    go_loopw [8, 9, 35, 36, 37, 38, 39, 40, 41, 42, 43, 44, 45, 46, 47, 48, 49, 50, 51, 52, 53, 54, 55, 56, 57, 58, 59, 60, 61, 62, 63, 64, 65, 66, 67] (fun _ _ x35 _ _ _ _ _ _ _ _ _ _ _ _ _ _ _ _ _ _ _ _ _ _ _ _ _ _ _ _ _ _ _ _ wr => ∃ (i : Nat) (v1 : Value), i ≤ n ∧ x35 = .int .i64 i ∧ Hid (ExIs w wr b vv av (x.add (Wd.eachF true (x.own.take i))) v v1)) (fun _ _ x35 _ _ _ _ _ _ _ _ _ _ _ _ _ _ _ _ _ _ _ _ _ _ _ _ _ _ _ _ _ _ _ _ _ => n - (intOf x35).toNat)
    case atStart => exact ⟨0, v, Nat.zero_le _, rfl, by show ExIs _ _ _ _ _ _ _ _; rw [List.take_zero]; show ExIs _ _ _ _ _ (x.add []) _ _; rw [Ex_add_nil]; exact HAT.out.is.below (below_drew2 w)⟩
    case round =>
      obtain ⟨i, v1, hi, rfl, HX⟩ := hrel
      by_cases hlt : i < n
      · have hget : ∃ k o, pp = some ⟨k, o, none⟩ ∧ wr.cell? ⟨k, o + i, none⟩ = some (.string ⟨(x.own.getD i []).toArray⟩) ∧ (x.own.getD i []).length < 1073741824 := by
          have hn2 := HN.out
          unfold Hid at hn2
          rcases HST.out.cells with ⟨h1, -⟩ | ⟨k, o, c, hv, -, hk, hc⟩
          · rw [h1] at hn2; simp at hn2; omega
          · simp at hv
            refine ⟨k, o, hv.1, ?_, ?_⟩
            · have h1 : w.cell? ⟨k, o + i, none⟩ = some (.string ⟨(x.own.getD i []).toArray⟩) := hc i (by omega)
              rw [← h1]
              refine World.cell?_of_block (HX.out.kept.block k (World.block_lt_of_cell? _ _ h1) ?_)
              rintro (rfl | e)
              · omega
              · have := (HAT.out.own.lt k e).1; omega
            · exact HST.out.each _ (by rw [List.getD_eq_getElem?_getD, List.getElem?_eq_getElem (by omega)]; simp)
        obtain ⟨k, o, rfl, hcell, hal⟩ := hget
        have hsn := eachF_take (l := x.own) (i := i) (by rw [HN.out]; exact hlt)
        have hpre := eachF_pre (l := x.own) i
        have hlen : (x.add (Wd.eachF true (x.own.take i))).l.length ≤ 2147483648 := by rw [Ex_add_l, List.length_append]; omega
        have HEND : Hid (∀ z, z = ((if i = 0 then (x.add (Wd.eachF true (x.own.take i))) else (x.add (Wd.eachF true (x.own.take i))).add [.gap]).add [.mark]).put (x.own.getD i []) true false → x.add (Wd.eachF true (x.own.take (i + 1))) = z) := by
          rintro z rfl
          rw [hsn]
          by_cases h0 : i = 0
          · simp only [if_pos h0, Wd.Ex.put, Ex_add_add, List.append_assoc, List.nil_append]
          · simp only [if_neg h0, Wd.Ex.put, Ex_add_add, List.append_assoc]
        generalize x.own.getD i [] = a at *
        generalize x.add (Wd.eachF true (x.own.take i)) = y1 at *
        have hat := HX.out.at_
        have hob := hat.blk.lt
        have c3 : wr.cell? ⟨b, 3, none⟩ = some v1 := hat.blk.cell 3 rfl
        have ic : (i : Int) < (n : Int) := by omega
        have HAT1 := Lib.hid hat
        clear hat hsn hpre
        by_cases h0 : i = 0
        · have h01 : ¬ 0 < i := by omega
          have h02 : ¬ (0 : Int) < (i : Int) := by omega
          have HI0 := Lib.hid h0
          have HAT2 := HAT1
          have HX2 := HX
          have HLEN2 : Hid (y1.l.length ≤ 2147483648) := by show _ ≤ _; omega
          clear h0 HAT1 HX
          have hpi := HAT2.out.pushIn (.cells #[.iface 68 (.agg #[])] 75)
          have HCELL2 : Hid (∀ j u, [Value.iface 68 (.agg #[])][j]? = some u → (wr.alloc (.cells #[.iface 68 (.agg #[])] 75)).cell? ((⟨wr.heap.size, 0, none⟩ : Addr).add j) = some u) := cell_one_new _ _ _
          have e3 := hpi.c
          have HPI2 := Lib.hid hpi
          have hlen2 := HLEN2.out
          clear hpi
          go_wp2_with (at_builtin; refine wpList_append_own_at _ rfl _ _ 49 rfl (b + 1) 75 i0 .nilIface 1 16 Tryz.underlying49 hi0 hz0 hz1 hz2 rfl (by decide) _ _ _ rfl HPI2.out.own ⟨wr.heap.size, 0, none⟩ 1 1 [.iface 68 (.agg #[])] (by rfl) rfl HCELL2.out (by simp [Value.oneCell']) (by unfold maxLen; omega) (by omega) (by have := HPI2.out.size; rw [this]; omega) ?_; intro v' w6 hown' hgrow _ hv'; obtain ⟨gg2, cap2, rfl⟩ := own_slice hown'; obtain ⟨hc6, hf6⟩ := HPI2.out.far hgrow; have HXP2 := Lib.hid (HAT2.out.pushOut (u := .mark) HPI2.out hown' hgrow hv'); clear hown' hgrow hv')
          have hput := put_any _ b vv av _ _ a true false HXP2.out.at_ (by rw [Ex_add_l, List.length_append]; simp; omega) (by omega)
          refine hput.mono ?_
          rintro e w7 ⟨rfl, v7, hx7⟩
          have HX7 := Lib.hid (HX2.out.trans (HXP2.out.trans hx7))
          clear hput hx7
          go_wp2_with fail
          refine ⟨⟨i + 1, v7, by omega, by go_num, ?_⟩, ?_⟩
          · show ExIs _ _ _ _ _ _ _ _
            rw [HEND.out _ rfl]
            first | rw [if_pos HI0.out] | rw [if_neg HI0.out]
            exact HX7.out
          · show n - ((i : Int) + 1).toNat < n - (i : Int).toNat
            omega
        · have h01 : 0 < i := by omega
          have h02 : (0 : Int) < (i : Int) := by omega
          have hpi := HAT1.out.pushIn (.cells #[.iface 85 (.agg #[])] 75)
          have HCELL : Hid (∀ j u, [Value.iface 85 (.agg #[])][j]? = some u → (wr.alloc (.cells #[.iface 85 (.agg #[])] 75)).cell? ((⟨wr.heap.size, 0, none⟩ : Addr).add j) = some u) := cell_one_new _ _ _
          have d3 := hpi.c
          have HPI := Lib.hid hpi
          have HI0 := Lib.hid h0
          clear hpi h0
          go_upto_region 8 with (at_builtin; refine wpList_append_own_at _ rfl _ _ 49 rfl (b + 1) 75 i0 .nilIface 1 16 Tryz.underlying49 hi0 hz0 hz1 hz2 rfl (by decide) _ _ _ rfl HPI.out.own ⟨wr.heap.size, 0, none⟩ 1 1 [.iface 85 (.agg #[])] (by rfl) rfl HCELL.out (by simp [Value.oneCell']) (by unfold maxLen; skip; omega) (by skip; omega) (by have := HPI.out.size; rw [this]; omega) ?_; intro v' w5 hown' hgrow _ hv'; obtain ⟨gg, cap, rfl⟩ := own_slice hown'; obtain ⟨hc5, hf5⟩ := HPI.out.far hgrow; have HXPgap := Lib.hid (HAT1.out.pushOut (u := .gap) HPI.out hown' hgrow hv'); clear hown' hgrow hv')
          generalize w5.setCell ⟨b, 3, none⟩ (.slice (some ⟨gg, 0, none⟩) (y1.l.length + 1) cap) = w8 at *
          generalize Value.slice (some ⟨gg, 0, none⟩) (y1.l.length + 1) cap = v8 at *
          have HAT2 := Lib.hid HXPgap.out.at_
          have HX2 := Lib.hid (HX.out.trans HXPgap.out)
          have hob8 := HAT2.out.blk.lt
          have c8 : w8.cell? ⟨b, 3, none⟩ = some v8 := HAT2.out.blk.cell 3 rfl
          have hl9 : (y1.add [.gap]).l.length ≤ 2147483649 := by rw [Ex_add_l, List.length_append]; show y1.l.length + 1 ≤ _; omega
          have HLEN2 := Lib.hid hl9
          clear hl9
          clear hc5 hf5 d3 c3 HPI HCELL HXPgap HAT1 HX hcell hlen
          generalize hY2 : y1.add [.gap] = y2 at *
          clear hY2
          have hpi := HAT2.out.pushIn (.cells #[.iface 68 (.agg #[])] 75)
          have HCELL2 : Hid (∀ j u, [Value.iface 68 (.agg #[])][j]? = some u → (w8.alloc (.cells #[.iface 68 (.agg #[])] 75)).cell? ((⟨w8.heap.size, 0, none⟩ : Addr).add j) = some u) := cell_one_new _ _ _
          have e3 := hpi.c
          have HPI2 := Lib.hid hpi
          have hlen2 := HLEN2.out
          clear hpi
          go_wp2_with (at_builtin; refine wpList_append_own_at _ rfl _ _ 49 rfl (b + 1) 75 i0 .nilIface 1 16 Tryz.underlying49 hi0 hz0 hz1 hz2 rfl (by decide) _ _ _ rfl HPI2.out.own ⟨w8.heap.size, 0, none⟩ 1 1 [.iface 68 (.agg #[])] (by rfl) rfl HCELL2.out (by simp [Value.oneCell']) (by unfold maxLen; omega) (by omega) (by have := HPI2.out.size; rw [this]; omega) ?_; intro v' w6 hown' hgrow _ hv'; obtain ⟨gg2, cap2, rfl⟩ := own_slice hown'; obtain ⟨hc6, hf6⟩ := HPI2.out.far hgrow; have HXP2 := Lib.hid (HAT2.out.pushOut (u := .mark) HPI2.out hown' hgrow hv'); clear hown' hgrow hv')
          have hput := put_any _ b vv av _ _ a true false HXP2.out.at_ (by rw [Ex_add_l, List.length_append]; simp; omega) (by omega)
          refine hput.mono ?_
          rintro e w7 ⟨rfl, v7, hx7⟩
          have HX7 := Lib.hid (HX2.out.trans (HXP2.out.trans hx7))
          clear hput hx7
          go_wp2_with fail
          refine ⟨⟨i + 1, v7, by omega, by go_num, ?_⟩, ?_⟩
          · show ExIs _ _ _ _ _ _ _ _
            rw [HEND.out _ rfl]
            first | rw [if_pos HI0.out] | rw [if_neg HI0.out]
            exact HX7.out
          · show n - ((i : Int) + 1).toNat < n - (i : Int).toNat
            omega
      · obtain rfl : i = n := by omega
        go_wp2_with fail
        refine bodyPost_end (results_none rfl _ _ _) rfl ?_
        have hx := HX.out
        rw [← HN.out, List.take_length, HY.out] at hx
        exact ⟨rfl, v1, hx⟩
  · rw [if_neg hc] at hy
    cases hv : x.value p with
    | none => rw [hv] at hy; cases hy
    | some sf =>
      obtain ⟨s, f⟩ := sf
      rw [hv] at hy
      obtain rfl : x.result s inq = y := Option.some.inj hy
      have hne : p ≠ [64] := by rintro rfl; exact absurd hv (by simp [Wd.Ex.value, Wd.named, Wd.head, Wd.within])
      have hpe : (p == [64]) = false := beq_eq_false_iff_ne.2 hne
      have hval := value_any w b vv av v x p s f h hg (by omega) hp hv
      have hsl := value_len h hv
      have HAT := Lib.hid h
      clear hy hc hv h hg
      go_enter Tryz.func61, Tryz.ntmps61
      go_wp2_with fail
      refine hval.mono ?_
      rintro e w1 ⟨rfl, hb⟩
      have hres := result_any w1 b vv av v x s inq (HAT.out.below hb) (by omega) (by omega)
      have HX := Lib.hid (HAT.out.is.below hb)
      clear hval hb
      go_wp2_with fail
      refine hres.mono ?_
      rintro e w2 ⟨rfl, v2, hx2⟩
      have HX2 := Lib.hid (HX.out.trans hx2)
      clear hres hx2
      go_wp2_with fail
      refine bodyPost_ret (results_none rfl _ _ _) rfl ?_
      exact ⟨rfl, v2, HX2.out⟩

end Go.Proofs.YtfoehfehnmhhmaaGreatDoor
