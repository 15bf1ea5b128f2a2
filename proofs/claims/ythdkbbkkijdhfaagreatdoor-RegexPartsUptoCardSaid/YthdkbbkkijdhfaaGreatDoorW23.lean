/-
  told, String, the law's told: whole. Conditions: what is told lies in memory; the library's variables hold what they hold.
-/
import Derived.Test.YthdkbbkkijdhfaaGreatDoorW22
namespace Go.Proofs.YthdkbbkkijdhfaaGreatDoor
open Go.RowKit Go.Shelf Go.Maps

theorem digitsF_len (b : Nat) : ∀ f n, (Rx.digitsF b f n).length ≤ f := by
  intro f
  induction f with
  | zero => intro n; simp [Rx.digitsF]
  | succ f ih =>
    intro n
    unfold Rx.digitsF
    have := ih (n / b)
    simp only [List.length_append, List.length_cons, List.length_nil]
    split
    · simp
    · omega

theorem ranges_len (h : Rx.Has) : (Rx.ranges h).length ≤ 1600 := by
  unfold Rx.ranges
  have h1 := sepBy_len [44] 5 (Rx.rangesF h 257 0) (rangesF_short h 257 0)
  have h2 := rangesF_count h 257 0
  have h3 : (Rx.rangesF h 257 0).length * (5 + ([44] : Rx.Bytes).length) ≤ 257 * 6 := Nat.mul_le_mul h2 (by decide)
  simp only [List.length_append, List.length_cons, List.length_nil]
  omega

theorem sepBy_sum (t : Rx.Bytes) (ht : t.length ≤ 1) : ∀ l : List Rx.Bytes, (Rx.sepBy t l).length ≤ (l.map fun x => x.length + 1).sum
  | [] => by simp [Rx.sepBy]
  | [x] => by simp [Rx.sepBy]
  | x :: y :: r => by
    have ih := sepBy_sum t ht (y :: r)
    simp only [Rx.sepBy, List.length_append, List.map_cons, List.sum_cons] at ih ⊢
    omega

mutual
theorem told_le : (n : Rx.Nd) → n.size < 20000 → n.told.length + 1 ≤ 2000 * n.size
  | .empty, _ => by simp [Rx.Nd.told, Rx.Nd.size]
  | .beg, _ => by simp [Rx.Nd.told, Rx.Nd.size]
  | .fin, _ => by simp [Rx.Nd.told, Rx.Nd.size]
  | .set h, _ => by
    have := ranges_len h
    simp only [Rx.Nd.told, Rx.Nd.size]
    omega
  | .rep m most k, hs => by
    simp only [Rx.Nd.size] at hs ⊢
    have hmul : k.size ≤ k.size * max 1 (if most < 0 then m else most.toNat) := Nat.le_mul_of_pos_right _ (by omega)
    have hk20 := size_le k
    rw [Nat.min_eq_right hk20] at hs ⊢
    have hk := told_le k (by omega)
    have h1 := digitsF_len 10 20 m
    have h2 := digitsF_len 10 20 most.toNat
    have h3 : (if 0 ≤ most then Rx.digitsF 10 20 most.toNat else []).length ≤ 20 := by
      split
      · exact h2
      · simp
    simp only [Rx.Nd.told, List.length_append, List.length_cons, List.length_nil]
    omega
  | .cat l, hs => by
    simp only [Rx.Nd.size] at hs ⊢
    have h1 := tolds_le l 0 (by omega)
    have h2 := sepBy_sum [] (by simp) (Rx.tolds l)
    simp only [Rx.Nd.told, List.length_append, List.length_cons, List.length_nil]
    omega
  | .alt l, hs => by
    simp only [Rx.Nd.size] at hs ⊢
    have h1 := tolds_le l 0 (by omega)
    have h2 := sepBy_sum [124] (by simp) (Rx.tolds l)
    simp only [Rx.Nd.told, List.length_append, List.length_cons, List.length_nil]
    omega
theorem tolds_le : (l : List Rx.Nd) → (a : Nat) → Rx.sizes l a < 20000 → ((Rx.tolds l).map fun x => x.length + 1).sum + 2000 * a ≤ 2000 * Rx.sizes l a
  | [], a, _ => by simp [Rx.tolds, Rx.sizes]
  | k :: r, a, hs => by
    simp only [Rx.sizes] at hs ⊢
    have h1 := tolds_le r (min 20000 (a + k.size)) hs
    have h0 : min 20000 (a + k.size) ≤ Rx.sizes r (min 20000 (a + k.size)) := by omega
    have hk := told_le k (by omega)
    simp only [Rx.tolds, List.map_cons, List.sum_cons]
    omega
end

theorem mem_sepBy (t : Rx.Bytes) : ∀ l : List Rx.Bytes, ∀ x ∈ l, x.length ≤ (Rx.sepBy t l).length
  | [], _, h => by simp at h
  | [x], y, h => by simp at h; subst h; simp [Rx.sepBy]
  | x :: y :: r, z, h => by
    have ih := mem_sepBy t (y :: r)
    simp only [Rx.sepBy, List.length_append] at ih ⊢
    rcases List.mem_cons.1 h with rfl | h
    · omega
    · have := ih z h; omega

theorem tolds_mem (l : List Rx.Nd) (i : Nat) (hi : i < l.length) : (Rx.tolds l).getD i [] ∈ Rx.tolds l := by
  rw [List.getD_eq_getElem?_getD, List.getElem?_eq_getElem (by rw [tolds_len]; exact hi)]
  exact List.getElem_mem _

theorem told_any {M : Nat → Prop} {w : World} {p : Nat} {n : Rx.Nd} (h : NdIn w M p n) : ∀ w', Below w.heap.size w w' → Glo w' → 8 ≤ w'.heap.size → n.told.length ≤ 140737488355000 → ToldC n p w' := by
  have glo : ∀ {w' w'' : World}, Glo w' → 8 ≤ w'.heap.size → Below w'.heap.size w' w'' → Glo w'' ∧ 8 ≤ w''.heap.size := fun hg h8 hb =>
    ⟨hg.kept (Kept.of_below (S := fun _ => False) hb) (fun _ h => h.elim) h8, Nat.le_trans h8 hb.size⟩
  induction h with
  | empty hp hb => intro w' hw _ _ _; exact told_empty _ w' (hb.keep hw hb.lt)
  | set hp hb => intro w' hw hg h8 _; exact told_set _ _ w' (hb.keep hw hb.lt) hg h8
  | beg hp hb => intro w' hw _ _ _; exact told_beg _ w' (hb.keep hw hb.lt)
  | fin hp hb => intro w' hw _ _ _; exact told_fin _ w' (hb.keep hw hb.lt)
  | cat hp hb h0 hc hk' hl hps _ ih =>
    intro w' hw hg h8 hlen
    refine told_list _ _ _ 4 .cat .cat _ _ w' (hb.keep hw hb.lt) hc hl (hps.kept (Kept.of_below (S := fun _ => False) hw) id) (fun i hi w'' hw'' => ?_) hlen
    obtain ⟨g1, g2⟩ := glo hg h8 hw''
    refine ih i hi w'' (hw.trans (hw''.mono hw.size)) g1 g2 ?_
    rw [tolds_get _ i hi]
    have h2 := mem_sepBy [] _ _ (tolds_mem _ i hi)
    simp only [Rx.Nd.told, List.length_append, List.length_cons, List.length_nil] at hlen
    omega
  | alt hp hb h0 hc hk' hl hps _ ih =>
    intro w' hw hg h8 hlen
    refine told_list _ _ _ 5 .alt .alt _ _ w' (hb.keep hw hb.lt) hc hl (hps.kept (Kept.of_below (S := fun _ => False) hw) id) (fun i hi w'' hw'' => ?_) hlen
    obtain ⟨g1, g2⟩ := glo hg h8 hw''
    refine ih i hi w'' (hw.trans (hw''.mono hw.size)) g1 g2 ?_
    rw [tolds_get _ i hi]
    have h2 := mem_sepBy [124] _ _ (tolds_mem _ i hi)
    simp only [Rx.Nd.told, List.length_append, List.length_cons, List.length_nil] at hlen
    omega
  | rep hp hb hk' hps _ hm ih =>
    intro w' hw hg h8 hlen
    have hl2 : ∀ (m : Nat) (most : Int) (n : Rx.Nd), n.told.length ≤ (Rx.Nd.rep m most n).told.length := fun m most n => by
      simp only [Rx.Nd.told, List.length_append]; omega
    have hl3 := Nat.le_trans (hl2 _ _ _) hlen
    refine told_rep _ _ _ _ _ _ w' (hb.keep hw hb.lt) (hps.kept (Kept.of_below (S := fun _ => False) hw) id) hm hg h8 (fun w'' hw'' => ?_) hl3
    obtain ⟨g1, g2⟩ := glo hg h8 hw''
    exact ih w'' (hw.trans (hw''.mono hw.size)) g1 g2 hl3

theorem String_any (B q : Nat) (n : Rx.Nd) (w : World) (h : ReAt w B q n) (hg : Glo w) (h8 : 8 ≤ w.heap.size) (hl : n.told.length ≤ 140737488355000) :
    Calls Tryz.prog 21 #[.pointer (some ⟨q, 0, none⟩)] w fun e w' => e = .returned (.string ⟨n.told.toArray⟩) ∧ Below w.heap.size w w' := by
  obtain ⟨p, hb, hq, hn⟩ := h
  have ht := told_any hn w (Below.refl _ _) hg h8 hl
  have c0 : w.cell? ⟨q, 0, none⟩ = some (.pointer (some ⟨p, 0, none⟩)) := hb.cell 0 rfl
  unfold ToldC at ht
  go_enter Tryz.func21, Tryz.ntmps21
  go_wp2_with fail
  refine ht.mono ?_
  rintro e w' ⟨rfl, hb'⟩
  go_wp2_with fail
  go_ret
  exact ⟨rfl, hb'⟩

/-- What the law's told hands back. -/
def tellVal : Option Rx.Bytes → Value
  | none => .tuple #[.string ⟨#[]⟩, .bool false]
  | some t => .tuple #[.string ⟨t.toArray⟩, .bool true]

set_option maxRecDepth 100000 in
theorem told15_any (s : Rx.Bytes) (ext fold : Bool) (w : World) (hg : Glo w) (h8 : 8 ≤ w.heap.size) (hl : s.length < 1073741824) :
    Calls Tryz.prog 22 #[.string ⟨s.toArray⟩, .bool ext, .bool fold] w fun e w' => e = .returned (tellVal (Rx.tellOf s ext fold)) ∧ Below w.heap.size w w' := by
  have hp := Parse_any s ext fold w hg h8 hl
  have HT : Hid (Rx.tellOf s ext fold = match Rx.read s ext fold with
    | none => none
    | some n => if 10000 < n.size then none else some n.told) := by show _ = _; rfl
  cases hx : Rx.read s ext fold with
  | none =>
    rw [hx] at hp HT
    unfold ParsePost at hp
    rw [HT.out]
    clear HT
    go_enter Tryz.func22, Tryz.ntmps22
    go_wp2_with fail
    refine hp.mono ?_
    rintro e w' ⟨rfl, hb⟩
    go_wp2_with fail
    go_ret2
    exact ⟨rfl, hb⟩
  | some n =>
    rw [hx] at hp HT
    unfold ParsePost at hp
    by_cases hbig : 10000 < n.size
    · simp only [if_pos hbig] at hp HT
      rw [HT.out]
      clear HT hbig
      go_enter Tryz.func22, Tryz.ntmps22
      go_wp2_with fail
      refine hp.mono ?_
      rintro e w' ⟨rfl, hb⟩
      go_wp2_with fail
      go_ret2
      exact ⟨rfl, hb⟩
    · simp only [if_neg hbig] at hp HT
      rw [HT.out]
      have hle := told_le n (by omega)
      have hle2 : n.told.length ≤ 140737488355000 := by omega
      clear HT hbig hle
      go_enter Tryz.func22, Tryz.ntmps22
      go_wp2_with fail
      refine hp.mono ?_
      rintro e w' ⟨⟨q, rfl, hre⟩, hb⟩
      have hstr := String_any w.heap.size q n w' hre (hg.kept (Kept.of_below (S := fun _ => False) hb) (fun _ h => h.elim) h8) (Nat.le_trans h8 hb.size) hle2
      go_wp2_with fail
      refine hstr.mono ?_
      rintro e w2 ⟨rfl, hb2⟩
      go_wp2_with fail
      go_ret2
      exact ⟨rfl, hb.trans (hb2.mono hb.size)⟩

end Go.Proofs.YthdkbbkkijdhfaaGreatDoor
