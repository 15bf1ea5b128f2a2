/-
  The walks of Set, the program's and the reference's. Condition: lengths.
-/
import Derived.Test.YtfoehfehnmhhmaaGreatDoorW38
import Derived.Laws.AppendOwnNone
namespace Go.Proofs.YtfoehfehnmhhmaaGreatDoor
open Go.RowKit Go.Shelf Go.Maps

/-- Texts that come in: what is nil has no room. -/
structure VarsIn (w : World) (B : Nat) (v : Value) (l : List Wd.Bytes) : Prop where
  at_ : StrsAt w B v l
  nil : ∀ c, v = .slice none 0 c → c = 0
theorem VarsIn.below {w w' : World} {B : Nat} {v : Value} {l : List Wd.Bytes} (h : VarsIn w B v l) (hb : Below w.heap.size w w') : VarsIn w' B v l := ⟨h.at_.below hb, h.nil⟩

/-- append of nothing and of texts that come in: they lie anew. -/
theorem wp_append_vars {w : World} {B : Nat} {l : List Wd.Bytes} {v : Value} {ops : Array Oper} {rest : List Oper} {o : Oper} {a : Act} {Q : Exit → Act → World → Prop} (hgd : o.guard = none) (s x : Operand)
    (ho : o.op = .call { callee := .builtin .append, args := #[s, x], argTypes := #[23, 23] }) (hs : a.eval s = .slice none 0 0) (hx : a.eval x = v) (hv : VarsIn w B v l)
    (h : ∀ v' w', StrsOwn w' w.heap.size v' l → Below w.heap.size w w' → wpList Tryz.prog ops Q rest (a.put o.dst v') w') : wpList Tryz.prog ops Q (o :: rest) a w := by
  obtain ⟨i0, hi0, hz0, hz1, hz2⟩ := info_parts info_str
  have hlen := hv.at_.len
  have key : ∀ (ad : Addr) (c : Nat), v = .slice (some ad) l.length c → (∀ j u, (l.map strV)[j]? = some u → w.cell? (ad.add j) = some u) → wpList Tryz.prog ops Q (o :: rest) a w := by
    rintro ad c rfl hnews
    refine wpList_append_own_at _ hgd s x 23 ho w.heap.size 9 i0 (.string ⟨#[]⟩) 1 16 Tryz.underlying23 hi0 hz0 hz1 hz2 rfl (by decide) _ 0 [] hs (World.ownsRow_nil _ _ _ _) ad l.length c (l.map strV) hx (by simp) hnews
      (by intro u hu; obtain ⟨y, -, rfl⟩ := List.mem_map.1 hu; rfl) (by unfold maxLen; omega) (by omega) (Nat.le_refl _) ?_
    intro v' w' hown hg _ _
    rw [Nat.zero_add, List.nil_append] at hown
    refine h v' w' ⟨hv.at_.len, hv.at_.each, hown⟩ ?_
    have hk : Kept (fun k => (Value.slice none 0 0).ownBlock = some k) w w' := kept_grown (Kept.refl _ w) hg
    exact (hk.mono (T := fun _ => False) fun k _ e => by cases e).below
  rcases hv.at_.cells with ⟨rfl, p, c, rfl⟩ | ⟨k, o2, c, rfl, -, -, hcell⟩
  · cases p with
    | none =>
      obtain rfl := hv.nil c rfl
      refine wpList_append_own_none hgd s x 23 ho w.heap.size 9 i0 1 Tryz.underlying23 hi0 _ 0 [] hs (World.ownsRow_nil _ _ _ _) hx ?_
      exact h _ w ⟨hv.at_.len, hv.at_.each, World.ownsRow_nil _ _ _ _⟩ (Below.refl _ _)
    | some ad => exact key ad c rfl (by intro j u hj; simp at hj)
  · refine key ⟨k, o2, none⟩ c rfl ?_
    intro j u hj
    have hjl : j < l.length := by
      have := (List.getElem?_eq_some_iff.1 hj).1
      simpa using this
    rw [show ((⟨k, o2, none⟩ : Addr).add j) = ⟨k, o2 + j, none⟩ by simp only [Addr.add]; split <;> simp_all]
    rw [hcell j hjl, ← hj]
    simp [List.getD_eq_getElem?_getD, hjl, strV]

theorem set_some {l : List Wd.Bytes} {n val : Wd.Bytes} {i : Nat} (h : Wd.place l n = some i) : Wd.set l n val = l.set i (n ++ [61] ++ val) := by unfold Wd.set; rw [h]
theorem set_none {l : List Wd.Bytes} {n val : Wd.Bytes} (h : Wd.place l n = none) : Wd.set l n val = l ++ [n ++ [61] ++ val] := by unfold Wd.set; rw [h]

/-- A text stored in a row of the call's own. -/
theorem StrsOwn.set {w : World} {B g c : Nat} {l : List Wd.Bytes} (h : StrsOwn w B (.slice (some ⟨g, 0, none⟩) l.length c) l) (i : Nat) (t : Wd.Bytes) (ht : t.length < 1073741824) :
    StrsOwn (w.setCell ⟨g, i, none⟩ (.string ⟨t.toArray⟩)) B (.slice (some ⟨g, 0, none⟩) l.length c) (l.set i t) := by
  refine ⟨by rw [List.length_set]; exact h.len, fun s hs => ?_, ?_⟩
  · rcases List.mem_or_eq_of_mem_set hs with h1 | rfl
    · exact h.each s h1
    · exact ht
  · have h2 := (h.own.stored i (.string ⟨t.toArray⟩)).1
    rw [List.length_set, show (l.set i t).map strV = (l.map strV).set i (strV t) from List.map_set]
    exact h2
theorem StrsOwn.push {w : World} {B : Nat} {v' : Value} {l : List Wd.Bytes} {t : Wd.Bytes} (hl : l.length + 1 < 1073741824) (he : ∀ s ∈ l, s.length < 1073741824) (ht : t.length < 1073741824)
    (hown : w.ownsRow B 9 1 v' (l.length + 1) (l.map strV ++ [.string ⟨t.toArray⟩])) : StrsOwn w B v' (l ++ [t]) := by
  refine ⟨by simpa using hl, fun s hs => ?_, ?_⟩
  · rcases List.mem_append.1 hs with h1 | h1
    · exact he s h1
    · rw [List.mem_singleton.1 h1]; exact ht
  · rw [List.length_append, List.map_append]; exact hown

set_option maxHeartbeats 3200000 in
set_option maxRecDepth 100000 in
theorem refSet_any (w : World) (n val : Wd.Bytes) (l : List Wd.Bytes) (v : Value) (B : Nat) (hv : VarsIn w B v l) (hl : l.length < 1073741823) (hn : n.length + val.length < 1073741823) :
    Calls Tryz.prog 10 #[v, .string ⟨n.toArray⟩, .string ⟨val.toArray⟩] w fun e w' => (∃ v', e = .returned v' ∧ StrsOwn w' w.heap.size v' (Wd.set l n val)) ∧ Below w.heap.size w w' := by
  obtain ⟨i0, hi0, hz0, hz1, hz2⟩ := info_parts info_str
  have HV := Lib.hid hv
  have HE := Lib.hid hv.at_.each
  have s1 : (⟨n.toArray⟩ : ByteArray) ++ ⟨#[61]⟩ = ⟨(n ++ [61]).toArray⟩ := by apply ByteArray.ext; simp
  have s2 : (⟨(n ++ [61]).toArray⟩ : ByteArray) ++ ⟨val.toArray⟩ = ⟨(n ++ [61] ++ val).toArray⟩ := by apply ByteArray.ext; simp
  have hl1 : (n ++ [61]).length ≤ 1073741823 := by simp; omega
  have hl2 : (n ++ [61] ++ val).length < 1073741824 := by simp; omega
  obtain ⟨G, hG⟩ : ∃ G, Wd.set l n val = G := ⟨_, rfl⟩
  have HG := Lib.hid hG
  rw [hG]
  clear hG hv
  obtain ⟨N, hN⟩ : ∃ N, l.length = N := ⟨_, rfl⟩
  have HN := Lib.hid hN
  rw [hN] at hl
  clear hN
  generalize hX : n ++ [61] ++ val = X at *
  generalize hX1 : n ++ [61] = X1 at s1 s2 hl1
  have HX := Lib.hid hX
  have HX1 := Lib.hid hX1
  clear hX hX1
  go_enter Tryz.func10, Tryz.ntmps10
  go_wp2_with (at_builtin; refine wp_append_vars rfl _ _ rfl rfl rfl HV.out ?_; intro v' w1 hown1 hb1)
  obtain ⟨p, c, rfl⟩ := hown1.shape
  rw [HN.out]
  have hrow := row_of_own hown1.own
  have HROW := Lib.hid hrow
  have HOWN := Lib.hid hown1
  have HB1 := Lib.hid hb1
  clear hrow hown1 hb1
  go_wp2_with fail
  go_loop [8, 9] (fun x8 _ => ∃ i : Nat, i ≤ N ∧ x8 = .int .i64 i ∧ Hid (∀ j, j < i → Wd.pre (n ++ [61]) (l.getD j []) = false)) (fun x8 _ => N - (intOf x8).toNat)
  case atStart => exact ⟨0, Nat.zero_le _, rfl, fun j hj => absurd hj (Nat.not_lt_zero j)⟩
  case round =>
    obtain ⟨i, hi, rfl, HB⟩ := hrel
    by_cases hlt : i < N
    · have ic : (i : Int) < (N : Int) := by omega
      obtain ⟨p2, c2, hpe, hc2⟩ := HROW.out
      simp at hpe
      obtain ⟨rfl, -⟩ := hpe
      obtain ⟨g, o, rfl, k1⟩ := hc2 i (by rw [HN.out]; exact hlt)
      have ho0 : o = 0 := by
        have := HOWN.out.own.2
        rcases this with ⟨h1, -⟩ | ⟨g2, cap, cur, h1, -⟩
        · simp at h1
        · simp at h1; exact h1.1.2
      subst ho0
      clear hc2
      have hvl : (l.getD i []).length < 1073741824 := by
        refine HE.out _ ?_
        rw [List.getD_eq_getElem?_getD, List.getElem?_eq_getElem (by rw [HN.out]; exact hlt)]
        exact List.getElem_mem _
      rw [Nat.zero_add] at k1
      cases hp : Wd.pre (n ++ [61]) (l.getD i []) with
      | true =>
        have hset := set_some (val := val) (place_at (by rw [HN.out]; exact hlt) HB.out hp)
        rw [HG.out] at hset
        have HS := Lib.hid hset
        have fz : w1.frozen? ⟨g, i, none⟩ = false := HOWN.out.own.frozenAt i
        have HOWN2 : Hid (StrsOwn (w1.setCell ⟨g, i, none⟩ (.string ⟨X.toArray⟩)) w.heap.size (.slice (some ⟨g, 0, none⟩) l.length c) (l.set i X)) := by
          exact HOWN.out.set i X hl2
        have hgb : w.heap.size ≤ g := (HOWN.out.own.lt g rfl).1
        obtain ⟨h1, h2, h3, h4, h5, h6⟩ := his hp
        clear hp hset
        generalize l.getD i [] = t at *
        go_wp2_with fail
        go_ret
        refine ⟨⟨_, rfl, ?_⟩, HB1.out.setCell (p := ⟨g, i, none⟩) hgb _⟩
        have := HOWN2.out
        rw [HN.out] at this
        rw [HS.out, HX.out]
        exact this
      | false =>
        have HB2 : Hid (∀ j, j < i + 1 → Wd.pre (n ++ [61]) (l.getD j []) = false) := by
          intro j hj
          by_cases h : j = i
          · rw [h]; exact hp
          · exact HB.out j (by omega)
        have hnh := notHis hp
        clear hp
        generalize hgd : l.getD i [] = t at *
        clear hgd
        rcases hnh with ⟨h, h2⟩ | ⟨T, h, h2, ht, hne, hne2⟩ | ⟨d, h, h2, ht, hd, hne⟩
        all_goals
          go_wp2_with fail
          go_round
          case rel => exact ⟨i + 1, by omega, by go_num, HB2⟩
          case measure => simp [intOf]; omega
    · obtain rfl : N = i := by omega
      have hset := set_none (val := val) (place_no (l := l) (n := n) (by rw [HN.out]; exact HB.out))
      rw [HG.out] at hset
      have HS := Lib.hid hset
      have hown := HOWN.out.own
      rw [HN.out] at hown
      have HO := Lib.hid (hown.alloc (.cells #[.string ⟨X.toArray⟩] 9))
      have HCELL : Hid (∀ j u, [Value.string ⟨X.toArray⟩][j]? = some u → (w1.alloc (.cells #[.string ⟨X.toArray⟩] 9)).cell? ((⟨w1.heap.size, 0, none⟩ : Addr).add j) = some u) := cell_one_new _ _ _
      have hsz := HB1.out.size
      clear hset hown
      go_wp2_with (at_builtin; refine wpList_append_own_at _ rfl _ _ 23 rfl w.heap.size 9 i0 (.string ⟨#[]⟩) 1 16 Tryz.underlying23 hi0 hz0 hz1 hz2 rfl (by decide) _ _ _ rfl HO.out ⟨w1.heap.size, 0, none⟩ 1 1 [.string ⟨X.toArray⟩] (by rfl) rfl HCELL.out (by simp [Value.oneCell']) (by unfold maxLen; omega) (by omega) (by simp; omega) ?_; intro v' w6 hown' hgrow _ hv'; have HOWN6 := Lib.hid hown'; have HK6 : Hid (Kept (fun k => (Value.slice p N c).ownBlock = some k) w1 w6) := kept_grown ((Kept.refl _ w1).alloc _) hgrow; clear hown' hgrow hv')
      go_ret
      refine ⟨⟨_, rfl, ?_⟩, HB1.out.trans (below_of_kept HK6.out (fun k hk => by rw [← HN.out] at hk; exact (HOWN.out.own.lt k hk).1) hsz)⟩
      rw [HS.out, HX.out]
      have := HOWN6.out
      rw [← HN.out] at this
      exact StrsOwn.push (by rw [HN.out]; omega) HE.out hl2 this

end Go.Proofs.YtfoehfehnmhhmaaGreatDoor
