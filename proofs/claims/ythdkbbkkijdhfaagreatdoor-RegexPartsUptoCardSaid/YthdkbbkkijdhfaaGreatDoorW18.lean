/-
  The walks of size, Size, Parse. Condition: what is told lies in memory.
-/
import Derived.Test.YthdkbbkkijdhfaaGreatDoorW17
namespace Go.Proofs.YthdkbbkkijdhfaaGreatDoor
open Go.RowKit Go.Shelf Go.Maps

/-- The sum of the kids' sizes. -/
def sumOf (zs : List Nat) : Nat := zs.foldl (fun a z => min 20000 (a + z)) 0
theorem sumOf_le (zs : List Nat) : ∀ a, a ≤ 20000 → zs.foldl (fun a z => min 20000 (a + z)) a ≤ 20000 := by
  induction zs with
  | nil => intro a h; exact h
  | cons z r ih => intro a _; exact ih _ (Nat.min_le_left _ _)
theorem sumOf_le' (zs : List Nat) : sumOf zs ≤ 20000 := sumOf_le zs 0 (by decide)
theorem sumOf_take (zs : List Nat) (i : Nat) (hi : i < zs.length) : sumOf (zs.take (i + 1)) = min 20000 (sumOf (zs.take i) + zs.getD i 0) := by
  unfold sumOf
  rw [List.take_succ_eq_append_getElem hi, List.foldl_append]
  simp [List.getD_eq_getElem?_getD, List.getElem?_eq_getElem hi]
/-- A node's size, of its kind and its kids' sum. -/
def finOf (kind mn mx : Int) (s : Nat) : Nat := if kind = 6 then min 20000 (s * (max 1 (if mx < 0 then mn else mx)).toNat + 1) else min 20000 (s + 1)

theorem fin6 (sm : Nat) (t : Int) (h1 : 1 ≤ t) (h2 : t ≤ 255) (hs : sm ≤ 20000) : min 20000 (wrap64 (wrap64 ((sm : Int) * t) + 1)) = ((min 20000 (sm * t.toNat + 1) : Nat) : Int) := by
  obtain ⟨n, rfl⟩ : ∃ n : Nat, t = n := ⟨t.toNat, by omega⟩
  have h3 : sm * n ≤ 20000 * 255 := Nat.mul_le_mul hs (by omega)
  rw [Int.toNat_natCast, ← Int.natCast_mul]
  generalize sm * n = q at *
  unfold wrap64
  omega

set_option maxHeartbeats 1600000 in
set_option maxRecDepth 100000 in
theorem size_core (w : World) (p k len cap : Nat) (a : Option Addr) (kind mn mx : Int) (h : Rx.Has) (ps zs : List Nat) (hb : Blk w p (ndCells kind h mn mx (.slice a len cap)) 87)
    (ha : 0 < len → a = some ⟨k, 0, none⟩) (hlc : len ≤ cap) (hl : len ≤ 1073741824) (hps : Ptrs w k ps) (hpl : ps.length = len) (hzl : zs.length = len) (hz : ∀ i, i < len → zs.getD i 0 ≤ 20000)
    (hmn : -1 ≤ mn ∧ mn ≤ 255) (hmx : -1 ≤ mx ∧ mx ≤ 255)
    (hc : ∀ i, i < len → Calls Tryz.prog 38 #[.pointer (some ⟨ps.getD i 0, 0, none⟩)] w fun e w' => e = .returned (.int .i64 (zs.getD i 0)) ∧ w' = w) :
    Calls Tryz.prog 38 #[.pointer (some ⟨p, 0, none⟩)] w fun e w' => e = .returned (.int .i64 (finOf kind mn mx (sumOf zs))) ∧ w' = w := by
  have c0 := hb.cell 0 (nd_kind _ _ _ _ _)
  have c1 := hb.cell 257 (nd_min _ _ _ _ _)
  have c2 := hb.cell 258 (nd_max _ _ _ _ _)
  have c3 := hb.cell 259 (nd_kids _ _ _ _ _)
  have HPS := Lib.hid hps
  have HC := Lib.hid hc
  have HZ := Lib.hid hz
  have HA := Lib.hid ha
  clear hps hc hb hz ha
  go_enter Tryz.func38, Tryz.ntmps38
  go_wp2_with fail
  go_loop [3, 5, 12] (fun x3 _x5 x12 => ∃ i : Nat, i ≤ len ∧ x12 = .int .i64 i ∧ x3 = .int .i64 (sumOf (zs.take i))) (fun _ _ x12 => len - (intOf x12).toNat)
  case atStart => exact ⟨0, Nat.zero_le _, rfl, rfl⟩
  case round =>
    obtain ⟨i, hi, rfl, rfl⟩ := hrel
    have hs20 := sumOf_le' (zs.take i)
    by_cases hlt : i < len
    · obtain rfl := HA.out (by omega)
      have cq := HPS.out i (by omega)
      have hcall := HC.out i hlt
      have hz20 := HZ.out i hlt
      have HST := Lib.hid (sumOf_take zs i (by omega))
      generalize zs.getD i 0 = z at *
      generalize ps.getD i 0 = q at *
      generalize sumOf (zs.take i) = sm at *
      go_wp2_with fail
      refine hcall.mono ?_
      rintro e w' ⟨rfl, rfl⟩
      go_wp2_with fail
      refine ⟨⟨i + 1, by omega, by go_num, ?_⟩, ?_⟩
      · rw [HST.out]; congr 1; omega
      · show len - ((i : Int) + 1).toNat < len - (i : Int).toNat
        omega
    · obtain rfl : i = len := by omega
      rw [List.take_of_length_le (by omega)] at hs20 ⊢
      by_cases h6 : kind = 6
      · subst h6
        generalize hsm : sumOf zs = sm at *
        go_wp2_with fail
        · have hneg : mx < 0 := by omega
          go_ret
          refine ⟨ret_int ?_, rfl⟩
          rw [fin6 sm (max 1 mn) (by omega) (by omega) hs20]
          unfold finOf
          rw [if_pos rfl, if_pos hneg]
        · have hneg : ¬ mx < 0 := by omega
          go_ret
          refine ⟨ret_int ?_, rfl⟩
          rw [fin6 sm (max 1 mx) (by omega) (by omega) hs20]
          unfold finOf
          rw [if_pos rfl, if_neg hneg]
      · have HF : Hid (finOf kind mn mx (sumOf zs) = min 20000 (sumOf zs + 1)) := if_neg h6
        generalize hsm : sumOf zs = sm at *
        have h6' : (kind == 6) = false := by simpa using h6
        go_wp2_with fail
        go_ret
        refine ⟨ret_int ?_, rfl⟩
        rw [HF.out]; omega

theorem sizes_fold (l : List Rx.Nd) : ∀ a, Rx.sizes l a = (l.map Rx.Nd.size).foldl (fun a z => min 20000 (a + z)) a := by
  induction l with
  | nil => intro a; rfl
  | cons x r ih => intro a; simp only [Rx.sizes, List.map_cons, List.foldl_cons]; exact ih _
theorem size_le (n : Rx.Nd) : n.size ≤ 20000 := by
  cases n <;> simp only [Rx.Nd.size] <;> omega

theorem size_any {M : Nat → Prop} {w : World} {p : Nat} {n : Rx.Nd} (h : NdIn w M p n) :
    Calls Tryz.prog 38 #[.pointer (some ⟨p, 0, none⟩)] w fun e w' => e = .returned (.int .i64 n.size) ∧ w' = w := by
  have lone : ∀ (p : Nat) (kind : Int) (hh : Rx.Has), kind ≠ 6 → Blk w p (ndCells kind hh 0 0 (.slice none 0 0)) 87 →
      Calls Tryz.prog 38 #[.pointer (some ⟨p, 0, none⟩)] w fun e w' => e = .returned (.int .i64 ((1 : Nat) : Int)) ∧ w' = w := by
    intro p kind hh hk hb
    have := size_core w p 0 0 0 none kind 0 0 hh [] [] hb (fun h => absurd h (by decide)) (Nat.le_refl _) (by decide) (fun i hi => absurd hi (Nat.not_lt_zero i)) rfl rfl (fun i hi => absurd hi (Nat.not_lt_zero i)) (by decide) (by decide) (fun i hi => absurd hi (Nat.not_lt_zero i))
    rw [show finOf kind 0 0 (sumOf []) = 1 by unfold finOf; rw [if_neg hk]; rfl] at this
    exact this
  have listed : ∀ (p k c : Nat) (kind : Int) (l : List Rx.Nd) (ps : List Nat), kind ≠ 6 → Blk w p (ndCells kind noHas 0 0 (.slice (some ⟨k, 0, none⟩) l.length c)) 87 → l.length ≤ c ∧ l.length ≤ 1073741824 → ps.length = l.length → Ptrs w k ps →
      (∀ i, i < l.length → Calls Tryz.prog 38 #[.pointer (some ⟨ps.getD i 0, 0, none⟩)] w fun e w' => e = .returned (.int .i64 (l.getD i .empty).size) ∧ w' = w) →
      Calls Tryz.prog 38 #[.pointer (some ⟨p, 0, none⟩)] w fun e w' => e = .returned (.int .i64 ((min 20000 (Rx.sizes l 0 + 1) : Nat) : Int)) ∧ w' = w := by
    intro p k c kind l ps hk hb hc hl hps hn
    have hg : ∀ i, i < l.length → (l.map Rx.Nd.size).getD i 0 = (l.getD i .empty).size := fun i hi => by simp [List.getD_eq_getElem?_getD, List.getElem?_eq_getElem hi]
    have := size_core w p k l.length c _ kind 0 0 noHas ps (l.map Rx.Nd.size) hb (fun _ => rfl) hc.1 hc.2 hps hl (by simp) (fun i hi => by rw [hg i hi]; exact size_le _) (by decide) (by decide) (fun i hi => by rw [hg i hi]; exact hn i hi)
    rw [show finOf kind 0 0 (sumOf (l.map Rx.Nd.size)) = min 20000 (Rx.sizes l 0 + 1) by unfold finOf; rw [if_neg hk, sizes_fold]; rfl] at this
    exact this
  induction h with
  | empty hp hb => exact lone _ 0 _ (by decide) hb
  | set hp hb => exact lone _ 1 _ (by decide) hb
  | beg hp hb => exact lone _ 2 _ (by decide) hb
  | fin hp hb => exact lone _ 3 _ (by decide) hb
  | cat hp hb h0 hc hk' hl hps _ ih => exact listed _ _ _ 4 _ _ (by decide) hb hc hl hps ih
  | alt hp hb h0 hc hk' hl hps _ ih => exact listed _ _ _ 5 _ _ (by decide) hb hc hl hps ih
  | rep hp hb hk' hps _ hm ih =>
    rename_i p k q m most n _
    have q1 : ∀ i, i < 1 → [n.size].getD i 0 ≤ 20000 := by
      intro i hi; have h0 : i = 0 := Nat.lt_one_iff.1 hi; subst h0; exact size_le _
    have q2 : ∀ i, i < 1 → Calls Tryz.prog 38 #[.pointer (some ⟨[q].getD i 0, 0, none⟩)] w fun e w' => e = .returned (.int .i64 ([n.size].getD i 0)) ∧ w' = w := by
      intro i hi; have h0 : i = 0 := Nat.lt_one_iff.1 hi; subst h0; exact ih
    have := size_core w p k 1 1 _ 6 m most noHas [q] [n.size] hb (fun _ => rfl) (Nat.le_refl _) (by decide) hps rfl rfl q1 (by omega) hm.2 q2
    have e : finOf 6 m most (sumOf [n.size]) = (Rx.Nd.rep m most n).size := by
      unfold finOf sumOf
      rw [if_pos rfl]
      simp only [Rx.Nd.size, List.foldl_cons, List.foldl_nil, Nat.zero_add]
      congr 3
      by_cases h : most < 0
      · rw [if_pos h, if_pos h]; omega
      · rw [if_neg h, if_neg h]; omega
    rw [e] at this
    exact this

end Go.Proofs.YthdkbbkkijdhfaaGreatDoor
