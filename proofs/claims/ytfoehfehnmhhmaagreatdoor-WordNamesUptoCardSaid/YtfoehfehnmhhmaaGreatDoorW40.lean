/-
  The walk of Set; of Assign, the program's and the reference's. Condition: lengths.
-/
import Derived.Test.YtfoehfehnmhhmaaGreatDoorW39
import Derived.Shelf.Strings.Cut
namespace Go.Proofs.YtfoehfehnmhhmaaGreatDoor
open Go.RowKit Go.Shelf Go.Maps

set_option maxHeartbeats 3200000 in
set_option maxRecDepth 100000 in
theorem Set_any (w : World) (n val : Wd.Bytes) (l : List Wd.Bytes) (v : Value) (B : Nat) (hv : StrsAt w B v l) (hl : l.length < 1073741823) (hn : n.length + val.length < 1073741823) :
    Calls Tryz.prog 9 #[v, .string ⟨n.toArray⟩, .string ⟨val.toArray⟩] w fun e w' => (∃ v', e = .returned v' ∧ StrsOwn w' w.heap.size v' (Wd.set l n val)) ∧ Below w.heap.size w w' := by
  obtain ⟨i0, hi0, hz0, hz1, hz2⟩ := info_parts info_str
  have hcl := clone_any w B v l hv
  have HE := Lib.hid hv.each
  have s1 : (⟨n.toArray⟩ : ByteArray) ++ ⟨#[61]⟩ = ⟨(n ++ [61]).toArray⟩ := by apply ByteArray.ext; simp
  have s2 : (⟨(n ++ [61]).toArray⟩ : ByteArray) ++ ⟨val.toArray⟩ = ⟨(n ++ [61] ++ val).toArray⟩ := by apply ByteArray.ext; simp
  have hl1 : (n ++ [61]).length ≤ 1073741823 := by simp; omega
  have hl2 : (n ++ [61] ++ val).length < 1073741824 := by simp; omega
  have hlv := HE.out
  clear hv hlv
  cases hp : Wd.place l n with
  | some i =>
    have hpl := place_some hp
    have hset := set_some (val := val) hp
    rw [hset]
    have hpv : placeV l n = (i : Int) := by unfold placeV; rw [hp]
    have hi1 := hpl.1
    clear hp hset hpl
    generalize hX : n ++ [61] ++ val = X at *
    clear hX
    generalize hX1 : n ++ [61] = X1 at s1 s2 hl1
    clear hX1
    obtain ⟨N, hN⟩ : ∃ N, l.length = N := ⟨_, rfl⟩
    have HN := Lib.hid hN
    rw [hN] at hl hi1
    clear hN
    have ic : (i : Int) < (N : Int) := by omega
    go_enter Tryz.func9, Tryz.ntmps9
    go_wp2_with fail
    refine hcl.mono ?_
    rintro e w1 ⟨v1, rfl, hown, hb1⟩
    obtain ⟨p, c, rfl⟩ := hown.shape
    have hpa := place_any w1 _ n l _ hown.strs (by omega)
    rw [hpv] at hpa
    have HOWN := Lib.hid hown
    have HB1 := Lib.hid hb1
    clear hcl hown hb1 hpv
    rw [HN.out] at hpa ⊢
    go_wp2_with fail
    refine hpa.mono ?_
    rintro e w2 ⟨rfl, hb2⟩
    have hown2 := HOWN.out.below hb2
    have hform : ∃ g, p = some ⟨g, 0, none⟩ := by
      rcases hown2.own.2 with ⟨h1, h2⟩ | ⟨g2, cap, cur, h1, -⟩
      · have := HN.out; unfold Hid at this; omega
      · simp at h1; exact ⟨g2, h1.1⟩
    obtain ⟨g, rfl⟩ := hform
    have hgb : w.heap.size ≤ g := (hown2.own.lt g rfl).1
    have hcell : w2.cell? ⟨g, i, none⟩ = some (strV (l.getD i [])) := by
      have := hown2.own.cellAt i (by rw [HN.out]; omega)
      rw [this]
      simp [List.getD_eq_getElem?_getD, List.getElem?_eq_getElem (show i < l.length by rw [HN.out]; exact hi1)]
    have fz : w2.frozen? ⟨g, i, none⟩ = false := hown2.own.frozenAt i
    have HS := Lib.hid (hown2.set i X hl2)
    have HB2 := Lib.hid (HB1.out.trans (hb2.mono HB1.out.size))
    clear hpa hb2 hown2
    go_wp2_with fail
    go_ret
    refine ⟨⟨_, rfl, ?_⟩, HB2.out.setCell (p := ⟨g, i, none⟩) hgb _⟩
    have := HS.out
    rw [HN.out] at this
    exact this
  | none =>
    have hset := set_none (val := val) hp
    rw [hset]
    have hpv : placeV l n = -1 := by unfold placeV; rw [hp]
    clear hp hset
    generalize hX : n ++ [61] ++ val = X at *
    clear hX
    generalize hX1 : n ++ [61] = X1 at s1 s2 hl1
    clear hX1
    go_enter Tryz.func9, Tryz.ntmps9
    go_wp2_with fail
    refine hcl.mono ?_
    rintro e w1 ⟨v1, rfl, hown, hb1⟩
    obtain ⟨p, c, rfl⟩ := hown.shape
    have hpa := place_any w1 _ n l _ hown.strs (by omega)
    rw [hpv] at hpa
    have HOWN := Lib.hid hown
    have HB1 := Lib.hid hb1
    clear hcl hown hb1 hpv
    go_wp2_with fail
    refine hpa.mono ?_
    rintro e w2 ⟨rfl, hb2⟩
    have hown2 := HOWN.out.below hb2
    have HO := Lib.hid (hown2.own.alloc (.cells #[.string ⟨X.toArray⟩] 9))
    have HCELL : Hid (∀ j u, [Value.string ⟨X.toArray⟩][j]? = some u → (w2.alloc (.cells #[.string ⟨X.toArray⟩] 9)).cell? ((⟨w2.heap.size, 0, none⟩ : Addr).add j) = some u) := cell_one_new _ _ _
    have HB2 := Lib.hid (HB1.out.trans (hb2.mono HB1.out.size))
    have HOWN2 := Lib.hid hown2
    have hsz := HB2.out.size
    clear hpa hb2 hown2
    go_wp2_with (at_builtin; refine wpList_append_own_at _ rfl _ _ 23 rfl w.heap.size 9 i0 (.string ⟨#[]⟩) 1 16 Tryz.underlying23 hi0 hz0 hz1 hz2 rfl (by decide) _ _ _ rfl HO.out ⟨w2.heap.size, 0, none⟩ 1 1 [.string ⟨X.toArray⟩] (by rfl) rfl HCELL.out (by simp [Value.oneCell']) (by unfold maxLen; omega) (by omega) (by simp; omega) ?_; intro v' w6 hown' hgrow _ hv'; have HOWN6 := Lib.hid hown'; have HK6 : Hid (Kept (fun k => (Value.slice p l.length c).ownBlock = some k) w2 w6) := kept_grown ((Kept.refl _ w2).alloc _) hgrow; clear hown' hgrow hv')
    go_ret
    refine ⟨⟨_, rfl, ?_⟩, HB2.out.trans (below_of_kept HK6.out (fun k hk => (HOWN2.out.own.lt k hk).1) hsz)⟩
    exact StrsOwn.push (by omega) HE.out hl2 HOWN6.out

/-- What is at a sign, in two pieces, whose first is a name. -/
theorem idx_split {d : UInt8} : ∀ {s : Wd.Bytes} {k : Nat}, Wd.idx d s = some k → k < s.length ∧ s = s.take k ++ d :: s.drop (k + 1) ∧ ∀ c ∈ s.take k, c ≠ d := by
  intro s
  induction s with
  | nil => intro k h; cases h
  | cons c r ih =>
    intro k h
    rw [Wd.idx] at h
    by_cases hc : c = d
    · rw [if_pos hc] at h
      obtain rfl : 0 = k := Option.some.inj h
      subst hc
      simp
    · rw [if_neg hc] at h
      cases hr : Wd.idx d r with
      | none => rw [hr] at h; cases h
      | some m =>
        rw [hr] at h
        obtain rfl : m + 1 = k := Option.some.inj h
        obtain ⟨h1, h2, h3⟩ := ih hr
        refine ⟨by simp; omega, ?_, ?_⟩
        · simp only [List.take_succ_cons, List.drop_succ_cons, List.cons_append]
          rw [← h2]
        · intro x hx
          rw [List.take_succ_cons] at hx
          rcases List.mem_cons.1 hx with rfl | hx
          · exact hc
          · exact h3 x hx
theorem idx_no {d : UInt8} : ∀ {s : Wd.Bytes}, Wd.idx d s = none → ∀ c ∈ s, c ≠ d := by
  intro s
  induction s with
  | nil => intro _ c hc; cases hc
  | cons c r ih =>
    intro h x hx
    rw [Wd.idx] at h
    by_cases hc : c = d
    · rw [if_pos hc] at h; cases h
    · rw [if_neg hc] at h
      cases hr : Wd.idx d r with
      | some m => rw [hr] at h; cases h
      | none =>
        rcases List.mem_cons.1 hx with rfl | hx
        · exact hc
        · exact ih hr x hx

theorem index_one (d : UInt8) : ∀ s : Wd.Bytes, Lib.index s [d] = match Wd.idx d s with
    | none => -1
    | some n => (n : Int) := by
  intro s
  induction s with
  | nil => rfl
  | cons c r ih =>
    rw [Lib.index, Wd.idx]
    by_cases hc : c = d
    · subst hc; simp [List.isPrefixOf]
    · have h1 : ([d] : Wd.Bytes).isPrefixOf (c :: r) = false := by simp [List.isPrefixOf, Ne.symm hc]
      rw [h1, ih, if_neg (by decide), if_neg hc]
      cases Wd.idx d r with
      | none => rfl
      | some m => simp
theorem lib_cut (s : Wd.Bytes) (d : UInt8) : Lib.cut s [d] = match Wd.idx d s with
    | none => (s, [], false)
    | some n => (s.take n, s.drop (n + 1), true) := by
  unfold Lib.cut
  rw [index_one]
  cases Wd.idx d s with
  | none => simp
  | some n => simp

theorem below_drewN (w : World) (k : Nat) : Below w.heap.size w (w.drewN k) := ⟨rfl, rfl, rfl, Nat.le_refl _, fun _ _ => rfl⟩
/-- What Assign tells. -/
def asg (x : Option (Wd.Bytes × Wd.Bytes)) : Value := match x with
  | none => .tuple #[.string ⟨#[]⟩, .string ⟨#[]⟩, .bool false]
  | some (a, b) => .tuple #[.string ⟨a.toArray⟩, .string ⟨b.toArray⟩, .bool true]

set_option maxHeartbeats 1600000 in
set_option maxRecDepth 100000 in
theorem Assign_any (w : World) (s : Wd.Bytes) (hg : Glo w) (hs : s.length < 1073741824) :
    Calls Tryz.prog 12 #[.string ⟨s.toArray⟩] w fun e w' => e = .returned (asg (Wd.assign s)) ∧ Below w.heap.size w w' := by
  obtain ⟨m, hm⟩ := hg.mx
  have hcut := Any.strings_Cut Tryz.lays145 ⟨s.toArray⟩ ⟨#[61]⟩ m w (by show s.length < _; omega) hm
  have e1 : Lib.cut (⟨s.toArray⟩ : ByteArray).data.toList (⟨#[61]⟩ : ByteArray).data.toList = Lib.cut s [61] := by simp
  rw [e1, lib_cut] at hcut
  unfold Wd.assign Wd.cutAt
  cases hi : Wd.idx 61 s with
  | none =>
    rw [hi] at hcut
    simp only at hcut
    clear hi hg hm e1
    go_enter Tryz.func12, Tryz.ntmps12
    go_wp2_with fail
    refine hcut.mono ?_
    rintro e w1 ⟨rfl, k, rfl⟩
    clear hcut
    go_wp2_with fail
    go_ret3
    exact ⟨rfl, below_drewN w k⟩
  | some n =>
    rw [hi] at hcut
    simp only at hcut
    have h1 := (idx_split hi).1
    clear hi hg hm e1
    have hnl : (s.take n).length < 1073741824 := by rw [List.length_take]; omega
    have hnm := named_any (s.take n) hnl
    simp only [Option.map_some]
    generalize s.take n = A at *
    generalize s.drop (n + 1) = C at *
    by_cases hA : A = []
    · subst hA
      rw [if_pos (.inl rfl)]
      go_enter Tryz.func12, Tryz.ntmps12
      go_wp2_with fail
      refine hcut.mono ?_
      rintro e w1 ⟨rfl, k, rfl⟩
      clear hcut
      go_wp2_with fail
      go_ret3
      exact ⟨rfl, below_drewN w k⟩
    · have hA2 : A.isEmpty = false := by cases A with
        | nil => exact absurd rfl hA
        | cons a r => rfl
      by_cases hN : Wd.named A = A.length
      · rw [if_neg (by rintro (h | h); exact hA h; exact h hN)]
        rw [hN] at hnm
        clear hN
        go_enter Tryz.func12, Tryz.ntmps12
        go_wp2_with fail
        refine hcut.mono ?_
        rintro e w1 ⟨rfl, k, rfl⟩
        clear hcut
        go_wp2_with fail
        refine (hnm _).mono ?_
        rintro e w1 ⟨rfl, rfl⟩
        clear hnm
        go_wp2_with fail
        go_ret3
        exact ⟨rfl, below_drewN w k⟩
      · rw [if_pos (.inr hN)]
        generalize Wd.named A = M at *
        have hM : ¬ (M : Int) = (A.length : Int) := by omega
        go_enter Tryz.func12, Tryz.ntmps12
        go_wp2_with fail
        refine hcut.mono ?_
        rintro e w1 ⟨rfl, k, rfl⟩
        clear hcut
        go_wp2_with fail
        refine (hnm _).mono ?_
        rintro e w1 ⟨rfl, rfl⟩
        clear hnm
        go_wp2_with fail
        go_ret3
        exact ⟨rfl, below_drewN w k⟩

end Go.Proofs.YtfoehfehnmhhmaaGreatDoor
