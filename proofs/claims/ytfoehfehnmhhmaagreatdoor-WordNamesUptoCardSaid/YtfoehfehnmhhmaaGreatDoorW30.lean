/-
  A lexer in memory; the walk of take. Condition: lengths.
-/
import Derived.Test.YtfoehfehnmhhmaaGreatDoorW29
namespace Go.Proofs.YtfoehfehnmhhmaaGreatDoor
open Go.RowKit Go.Shelf Go.Maps

theorem cells_new (w : World) (cs : Array Value) (t : TypeId) : ∀ j u, cs.toList[j]? = some u → (w.alloc (.cells cs t)).cell? ((⟨w.heap.size, 0, none⟩ : Addr).add j) = some u := by
  intro j u hj
  have hj' : cs[j]? = some u := by simpa using hj
  rw [show ((⟨w.heap.size, 0, none⟩ : Addr).add j) = ⟨w.heap.size, j, none⟩ by simp only [Addr.add, Nat.zero_add]; split <;> simp_all]
  exact (Blk.new w cs t).cell j hj'
theorem info_tok : (Tryz.prog.info? 43).map (fun i => (i.zero, i.size, i.bytes)) = some (some (.agg #[.int .i64 0, .string ⟨#[]⟩]), 2, 24) := by kernel_rfl

def tokC (t : Nat × Wd.Bytes) : List Value := [.int .i64 t.1, .string ⟨t.2.toArray⟩]
def toks (l : List (Nat × Wd.Bytes)) : List Value := l.flatMap tokC
theorem toks_snoc (l : List (Nat × Wd.Bytes)) (k : Nat) (t : Wd.Bytes) : toks (l ++ [(k, t)]) = toks l ++ [.int .i64 k, .string ⟨t.toArray⟩] := by simp [toks, tokC]

/-- A lexer in memory. -/
structure LxAt (w : World) (b : Nat) (s : Wd.Bytes) (l : List (Nat × Wd.Bytes)) (v : Value) : Prop where
  blk : Blk w b #[.string ⟨s.toArray⟩, v] 61
  own : w.ownsRow (b + 1) 43 2 v l.length (toks l)
/-- What has become of it. -/
structure LxIs (w0 w : World) (b : Nat) (s : Wd.Bytes) (l : List (Nat × Wd.Bytes)) (v0 v : Value) : Prop where
  at_ : LxAt w b s l v
  kept : Kept (fun k => k = b ∨ v0.ownBlock = some k) w0 w
  fresh : ∀ k, v.ownBlock = some k → v0.ownBlock = some k ∨ w0.heap.size ≤ k

theorem LxAt.is {w : World} {b : Nat} {s : Wd.Bytes} {l : List (Nat × Wd.Bytes)} {v : Value} (h : LxAt w b s l v) : LxIs w w b s l v v := ⟨h, Kept.refl _ _, fun _ hk => .inl hk⟩
theorem LxIs.trans {w0 w w' : World} {b : Nat} {s s' : Wd.Bytes} {l l' : List (Nat × Wd.Bytes)} {v0 v v' : Value} (h : LxIs w0 w b s l v0 v) (h2 : LxIs w w' b s' l' v v') : LxIs w0 w' b s' l' v0 v' := by
  refine ⟨h2.at_, h.kept.trans' h2.kept fun k hk hT => ?_, fun k hk => ?_⟩
  · rcases hT with rfl | hT
    · exact .inl rfl
    · rcases h.fresh k hT with h3 | h3
      · exact .inr h3
      · omega
  · rcases h2.fresh k hk with h3 | h3
    · exact h.fresh k h3
    · exact .inr (Nat.le_trans h.kept.size h3)
theorem LxAt.below {w w' : World} {b : Nat} {s : Wd.Bytes} {l : List (Nat × Wd.Bytes)} {v : Value} (h : LxAt w b s l v) (hb : Below w.heap.size w w') : LxAt w' b s l v :=
  ⟨h.blk.keep hb h.blk.lt, own_kept h.own (Kept.of_below (S := fun _ => False) hb) fun _ _ h => h⟩
theorem LxIs.below {w0 w w' : World} {b : Nat} {s : Wd.Bytes} {l : List (Nat × Wd.Bytes)} {v0 v : Value} (h : LxIs w0 w b s l v0 v) (h2 : Below w.heap.size w w') : LxIs w0 w' b s l v0 v :=
  ⟨h.at_.below h2, h.kept.trans (Kept.of_below h2), h.fresh⟩
theorem LxAt.apart {w : World} {b : Nat} {s : Wd.Bytes} {l : List (Nat × Wd.Bytes)} {v : Value} (h : LxAt w b s l v) {q : Nat} (hq : w.heap.size ≤ q) : ¬ (q = b ∨ v.ownBlock = some q) := by
  rintro (rfl | e)
  · have := h.blk.lt; omega
  · have := (h.own.lt q e).2; omega

/-- The text stored. -/
theorem LxAt.text {w : World} {b : Nat} {s : Wd.Bytes} {l : List (Nat × Wd.Bytes)} {v : Value} (h : LxAt w b s l v) (s' : Wd.Bytes) : LxIs w (w.setCell ⟨b, 0, none⟩ (.string ⟨s'.toArray⟩)) b s' l v v := by
  refine ⟨⟨h.blk.set 0 _, ?_⟩, (Kept.refl (fun k => k = b ∨ v.ownBlock = some k) w).setCell (.inl (.inl rfl)) 0 _, fun _ hk => .inl hk⟩
  exact own_kept (S := (· = b)) h.own ((Kept.refl (· = b) w).setCell (.inl rfl) 0 _) (by rintro k e rfl; have := (h.own.lt k e).1; omega)

/-- A token more. -/
theorem LxAt.pushed {w W2 w1 : World} {b : Nat} {s : Wd.Bytes} {l : List (Nat × Wd.Bytes)} {v v' : Value} {k : Nat} {t : Wd.Bytes} (h : LxAt w b s l v) (hW : Kept (fun _ => False) w W2)
    (hown : w1.ownsRow (b + 1) 43 2 v' (l.length + 1) (toks l ++ [.int .i64 k, .string ⟨t.toArray⟩])) (hg : W2.grownBy w1 v.ownBlock) (hv : ∀ k, v'.ownBlock = some k → v.ownBlock = some k ∨ W2.heap.size ≤ k) :
    LxIs w (w1.setCell ⟨b, 1, none⟩ v') b s (l ++ [(k, t)]) v v' := by
  have hk1 : Kept (fun k => v.ownBlock = some k) w w1 := kept_grown hW hg
  have hob : ∀ k, v.ownBlock = some k → b + 1 ≤ k := fun k e => (h.own.lt k e).1
  refine ⟨⟨(h.blk.kept hk1 fun e => by have := hob b e; omega).set 1 _, ?_⟩, (hk1.mono fun k _ e => .inr e).setCell (.inl (.inl rfl)) 1 _, fun k e => ?_⟩
  · rw [List.length_append, toks_snoc]
    exact own_kept (S := (· = b)) hown ((Kept.refl (· = b) w1).setCell (.inl rfl) 1 _) (by rintro k e rfl; have := (hown.lt k e).1; omega)
  · rcases hv k e with h2 | h2
    · exact .inl h2
    · exact .inr (by have := hW.size; omega)

theorem pre_len {t s : Wd.Bytes} (h : Wd.pre t s = true) : t.length ≤ s.length := (List.isPrefixOf_iff_prefix.1 h).length_le
theorem takes_some {s t : Wd.Bytes} : ∀ {l : List Wd.Bytes}, Wd.takes s l = some t → Wd.pre t s = true ∧ t ∈ l := by
  intro l
  induction l with
  | nil => intro h; cases h
  | cons a r ih =>
    intro h
    rw [Wd.takes] at h
    split at h
    · cases h; exact ⟨by assumption, by simp⟩
    · have := ih h; exact ⟨this.1, by simp [this.2]⟩

/-- What take hands back. -/
def TakePost (w : World) (b : Nat) (s : Wd.Bytes) (l : List (Nat × Wd.Bytes)) (v : Value) (k : Nat) (x : Option Wd.Bytes) (e : Ending) (w' : World) : Prop := match x with
  | none => e = .returned (.bool false) ∧ w' = w
  | some t => e = .returned (.bool true) ∧ ∃ v', LxIs w w' b (s.drop t.length) (l ++ [(k, t)]) v v'

set_option maxHeartbeats 3200000 in
set_option maxRecDepth 100000 in
theorem take_any (w : World) (b : Nat) (s : Wd.Bytes) (l : List (Nat × Wd.Bytes)) (v tv : Value) (k : Nat) (texts : List Wd.Bytes) (h : LxAt w b s l v) (ht : StrsAt w w.heap.size tv texts) (hl : l.length ≤ 1073741824) :
    Calls Tryz.prog 55 #[.pointer (some ⟨b, 0, none⟩), .int .i64 k, tv] w fun e w' => TakePost w b s l v k (Wd.takes s texts) e w' := by
  obtain ⟨i0, hi0, hz0, hz1, hz2⟩ := info_parts info_tok
  obtain ⟨pt, n, ct, rfl⟩ := ht.slice
  have hn : texts.length = n := by
    rcases ht.cells with ⟨rfl, p, c, e⟩ | ⟨k, o, c, e, -⟩
    · simp at e; simp [e.2.1]
    · simp at e; exact e.2.1.symm
  have hcell : ∀ i, i < n → ∃ g o, pt = some ⟨g, o, none⟩ ∧ w.cell? ⟨g, o + i, none⟩ = some (.string ⟨(texts.getD i []).toArray⟩) := by
    intro i hi
    rcases ht.cells with ⟨rfl, p, c, e⟩ | ⟨k, o, c, e, -, -, hc⟩
    · simp at hn; omega
    · simp at e
      exact ⟨k, o, e.1, hc i (by omega)⟩
  have hnl : n < 1073741824 := by rw [← hn]; exact ht.len
  have HT := Lib.hid ht
  have HC := Lib.hid hcell
  have HN := Lib.hid hn
  have c0 : w.cell? ⟨b, 0, none⟩ = some (.string ⟨s.toArray⟩) := h.blk.cell 0 rfl
  have hblt := h.blk.lt
  have H := Lib.hid h
  obtain ⟨RES, hRES⟩ : ∃ r, Wd.takes s texts = r := ⟨_, rfl⟩
  rw [hRES]
  have HRES : Hid (Wd.takes s (texts.drop 0) = RES) := hRES
  clear h ht hcell hn hRES
  go_enter Tryz.func55, Tryz.ntmps55
  go_wp2_with fail
  go_loopw [8, 9, 10, 13] (fun _ _ _ x13 wr => ∃ (i : Nat), i ≤ n ∧ x13 = .int .i64 i ∧ Hid (Wd.takes s (texts.drop i) = RES) ∧ wr = w) (fun _ _ _ x13 _ => n - (intOf x13).toNat)
  case atStart => exact ⟨0, Nat.zero_le _, rfl, HRES, rfl⟩
  case round =>
    obtain ⟨i, hi, rfl, HR, rfl⟩ := hrel
    by_cases hlt : i < n
    · have ic : (i : Int) < (n : Int) := by omega
      obtain ⟨g, o, rfl, hc⟩ := HC.out i hlt
      have hr := HR.out
      have hdr : texts.drop i = texts.getD i [] :: texts.drop (i + 1) := by
        rw [List.drop_eq_getElem_cons (by rw [HN.out]; exact hlt)]
        simp [List.getD_eq_getElem?_getD, List.getElem?_eq_getElem (show i < texts.length by rw [HN.out]; exact hlt)]
      rw [hdr, Wd.takes] at hr
      generalize texts.getD i [] = t at *
      have hcp := cutPrefix_any s t wr
      clear hdr
      by_cases hp : Wd.pre t s = true
      · rw [if_pos hp] at hr
        rw [hp, if_pos rfl] at hcp
        subst hr
        have hset := H.out.text (s.drop t.length)
        have hat := hset.at_
        have f0 : wr.frozen? ⟨b, 0, none⟩ = false := H.out.blk.free 0
        have c1 : wr.cell? ⟨b, 1, none⟩ = some v := H.out.blk.cell 1 rfl
        have HSET := Lib.hid hset
        generalize hw2 : wr.setCell ⟨b, 0, none⟩ (.string ⟨(s.drop t.length).toArray⟩) = w2 at *
        have k1 : w2.cell? ⟨b, 1, none⟩ = some v := hat.blk.cell 1 rfl
        have hob := (hat.own.alloc (.cells #[.int .i64 k, .string ⟨t.toArray⟩] 43))
        have HOB := Lib.hid hob
        have HCELL : Hid (∀ j u, [Value.int .i64 k, .string ⟨t.toArray⟩][j]? = some u → (w2.alloc (.cells #[.int .i64 k, .string ⟨t.toArray⟩] 43)).cell? ((⟨w2.heap.size, 0, none⟩ : Addr).add j) = some u) := cells_new _ #[_, _] _
        have hn1 : v.ownBlock ≠ some b := fun e => by have := (hat.own.lt b e).1; omega
        have HAT := Lib.hid hat
        have HW2 := Lib.hid hw2
        have hblt2 := hat.blk.lt
        clear hset hob hat
        go_upto_region 7 with (first | (go_at_call 53; refine hcp.mono ?_; rintro e w1 ⟨rfl, rfl⟩))
        clear hw2
        clear HW2 f0 c1 c0 hc
        go_wp2_with (at_builtin; refine wpList_append_own_at _ rfl _ _ 39 rfl (b + 1) 43 i0 (.agg #[.int .i64 0, .string ⟨#[]⟩]) 2 24 Tryz.underlying39 hi0 hz0 hz1 hz2 rfl (by decide) _ _ _ rfl HOB.out ⟨w2.heap.size, 0, none⟩ 1 1 [.int .i64 k, .string ⟨t.toArray⟩] (by rfl) rfl HCELL.out (by simp [Value.oneCell']) (by unfold maxLen; omega) (by omega) (by simp; omega) ?_; intro v' w6 hown' hgrow _ hv'; obtain ⟨gg2, cap2, rfl⟩ := own_slice hown'; have HK6 := Lib.hid (kept_grown ((Kept.refl _ w2).alloc _) hgrow); have B6 := HAT.out.blk.kept HK6.out hn1; have j1 := B6.cell 1 (v := v) rfl; have f1 := B6.free 1; have HP := Lib.hid (HAT.out.pushed ((Kept.refl _ _).alloc _) hown' hgrow (by rintro k' e; rcases hv' with e2 | e2; exact .inl (e2 ▸ e); rw [e2] at e; exact .inr (by injection e with e; omega))); clear hown' hgrow hv' B6)
        go_ret
        exact ⟨rfl, _, HSET.out.trans HP.out⟩
      · rw [if_neg hp] at hr
        have hp' : Wd.pre t s = false := by simpa using hp
        rw [hp', if_neg (by decide)] at hcp
        have HR2 := Lib.hid hr
        clear hr hp hp'
        go_wp2_with fail
        refine hcp.mono ?_
        rintro e w1 ⟨rfl, rfl⟩
        clear hcp
        go_wp2_with fail
        refine ⟨⟨i + 1, by omega, by go_num, HR2, trivial⟩, ?_⟩
        show n - ((i : Int) + 1).toNat < n - (i : Int).toNat
        omega
    · obtain rfl : n = i := by omega
      have hr := HR.out
      rw [← HN.out, List.drop_length] at hr
      have HR2 : Hid (none = RES) := hr
      clear hr
      go_wp2_with fail
      go_ret
      rw [← HR2.out]
      exact ⟨rfl, rfl⟩

end Go.Proofs.YtfoehfehnmhhmaaGreatDoor
