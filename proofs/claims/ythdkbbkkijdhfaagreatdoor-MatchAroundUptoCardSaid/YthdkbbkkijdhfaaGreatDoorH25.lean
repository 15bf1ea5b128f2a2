/-
  Texts of this seat put together: M1, M2, M3.
-/
import Derived.Test.YthdkbbkkijdhfaaGreatDoorH14
import Derived.Test.YthdkbbkkijdhfaaGreatDoorH24
import Derived.Maps.AppendAt
import Derived.Deep.RegionLaw
import Derived.Deep.AppendLies
import Derived.Deep.RegionHeld3

/-
  States in memory; the walk of add. Condition: there are no more than a million states.
-/
namespace Go.Proofs.YthdkbbkkijdhfaaGreatDoor
open Go.RowKit Go.Shelf Go.Maps

/-- A state's cells; the place of its set is told by the node's block. -/
def stV (s : Mx.St) (h : Option Nat) : List Value := [.int .i64 s.kind, .pointer (h.map fun b => ⟨b, 1, none⟩), .int .i64 s.to, .int .i64 s.or]
/-- States with the blocks of their sets' nodes. -/
abbrev Sts := List (Mx.St × Option Nat)
def row (L : Sts) : List Value := L.flatMap fun x => stV x.1 x.2
def sts (L : Sts) : List Mx.St := L.map (·.1)

theorem row_app (L K : Sts) : row (L ++ K) = row L ++ row K := by simp [row]
theorem row_len (L : Sts) : (row L).length = L.length * 4 := by
  induction L with
  | nil => rfl
  | cons x r ih => simp [row, stV] at ih ⊢; omega
theorem sts_app (L K : Sts) : sts (L ++ K) = sts L ++ sts K := by simp [sts]
theorem sts_len (L : Sts) : (sts L).length = L.length := by simp [sts]

/-- A node's set, in memory. -/
def HasAt (w : World) (b : Nat) (h : Rx.Has) : Prop := ∀ i, i < 256 → w.cell? ⟨b, 1 + i, none⟩ = some (.bool (h (UInt8.ofNat i)))
theorem HasAt.kept {S : Nat → Prop} {w w' : World} {b : Nat} {h : Rx.Has} (hh : HasAt w b h) (hk : Kept S w w') (hS : ¬ S b) : HasAt w' b h := by
  intro i hi
  have := hh i hi
  have hlt : b < w.heap.size := World.block_lt_of_cell? _ _ this
  rw [← this]
  unfold World.cell?
  simp only
  rw [hk.block b hlt hS]

/-- An expression that is ready, in memory. -/
structure Pg (w : World) (q : Nat) (v : Value) (st : Int) (L : Sts) : Prop where
  blk : Blk w q #[v, .int .i64 st] 81
  own : w.ownsRow (q + 1) 85 4 v L.length (row L)
  has : ∀ x ∈ L, x.1.kind = 0 → ∃ b, x.2 = some b ∧ b < q ∧ HasAt w b x.1.has

theorem own_form' {w : World} {base : Nat} {e : TypeId} {size : Nat} {v : Value} {n : Nat} {xs : List Value} (h : w.ownsRow base e size v n xs) : (v = .slice none 0 0 ∧ n = 0) ∨ ∃ g c, v = .slice (some ⟨g, 0, none⟩) n c ∧ base ≤ g ∧ n ≤ c := by
  rcases h.2 with h1 | ⟨g, cap, cur, e, h2, -, h3, -⟩
  · exact .inl h1
  · exact .inr ⟨g, cap, e, h2, h3⟩

theorem own_kept {S : Nat → Prop} {w w' : World} {B : Nat} {t : TypeId} {size n : Nat} {v : Value} {xs : List Value} (h : w.ownsRow B t size v n xs) (hk : Kept S w w') (hS : ∀ k, v.ownBlock = some k → ¬ S k) : w'.ownsRow B t size v n xs := by
  obtain ⟨h1, h2 | ⟨g, cap, cur, e, hg, hb, r⟩⟩ := h
  · exact ⟨h1, .inl h2⟩
  · exact ⟨h1, .inr ⟨g, cap, cur, e, hg, (hk.block g (lt_of_block hb) (hS g (by rw [e]; rfl))).trans hb, r⟩⟩

/-- Below a block: nothing below has turned. -/
theorem Kept.of_lower {B : Nat} {w w' : World} (h : Below B w w') : Kept (fun k => B ≤ k) w w' := ⟨h.os, h.tape, h.output, h.size, fun k _ hs => h.block k (Nat.lt_of_not_le hs)⟩

theorem kept_grown {w w2 w1 : World} {o : Option Nat} (h : Kept (fun _ => False) w w2) (hg : w2.grownBy w1 o) : Kept (fun k => o = some k) w w1 :=
  ⟨hg.os.trans h.os, hg.tape.trans h.tape, hg.output.trans h.output, Nat.le_trans h.size hg.size, fun k hk hs => (hg.block k (Nat.lt_of_lt_of_le hk h.size) fun e => hs e.symm).trans (h.block k hk id)⟩

theorem Pg.pushed {w w1 : World} {q : Nat} {v v' : Value} {st : Int} {L : Sts} {s : Mx.St} {hp : Option Nat} (h : Pg w q v st L) (hs : s.kind = 0 → ∃ b, hp = some b ∧ b < q ∧ HasAt w b s.has)
    (hown1 : w1.ownsRow (q + 1) 85 4 v' (L.length + 1) (row L ++ stV s hp)) (hk : Kept (fun k => v.ownBlock = some k) w w1) :
    Pg (w1.setCell ⟨q, 0, none⟩ v') q v' st (L ++ [(s, hp)]) ∧ Below q w (w1.setCell ⟨q, 0, none⟩ v') := by
  have hob : ∀ k, v.ownBlock = some k → q + 1 ≤ k := fun k e => (h.own.lt k e).1
  have hq := h.blk.lt
  have hk2 : Kept (fun k => q ≤ k) w (w1.setCell ⟨q, 0, none⟩ v') := (hk.mono fun k _ e => by have := hob k e; omega).setCell (.inl (Nat.le_refl _)) 0 v'
  refine ⟨⟨?_, ?_, ?_⟩, hk2.os, hk2.tape, hk2.output, hk2.size, fun k hk' => hk2.block k (by omega) (by omega)⟩
  · have := (h.blk.kept hk fun e => by have := hob q e; omega).set 0 v'
    exact this
  · rw [row_app, List.length_append]
    refine own_kept (S := (· = q)) (w := w1) ?_ ((Kept.refl (· = q) w1).setCell (.inl rfl) 0 v') ?_
    · simpa [row] using hown1
    · rintro k e rfl
      have := (hown1.lt k e).1
      omega
  · intro x hx hx0
    rcases List.mem_append.1 hx with hx | hx
    · obtain ⟨b, e, hb, hh⟩ := h.has x hx hx0
      exact ⟨b, e, hb, hh.kept hk2 (by omega)⟩
    · obtain rfl : x = (s, hp) := by simpa using hx
      obtain ⟨b, e, hb, hh⟩ := hs hx0
      exact ⟨b, e, hb, hh.kept hk2 (by omega)⟩

theorem info_state : (Tryz.prog.info? 85).map (fun i => (i.zero, i.size, i.bytes)) = some (some (.agg #[.int .i64 0, .pointer none, .int .i64 0, .int .i64 0]), 4, 32) := by kernel_rfl

theorem cells_new (w : World) (cs : Array Value) (t : TypeId) : ∀ j u, cs.toList[j]? = some u → (w.alloc (.cells cs t)).cell? ((⟨w.heap.size, 0, none⟩ : Addr).add j) = some u := by
  intro j u h
  rw [show ((⟨w.heap.size, 0, none⟩ : Addr).add j) = ⟨w.heap.size, j, none⟩ by simp only [Addr.add]; split <;> simp_all]
  exact Blk.cell (Blk.new w cs t) j (by simpa using h)

set_option maxHeartbeats 1600000 in
set_option maxRecDepth 100000 in
theorem add_any (w : World) (q : Nat) (v : Value) (st : Int) (L : Sts) (s : Mx.St) (hp : Option Nat) (h : Pg w q v st L) (hl : L.length ≤ 1000000) (hs : s.kind = 0 → ∃ b, hp = some b ∧ b < q ∧ HasAt w b s.has) :
    Calls Tryz.prog 36 #[.pointer (some ⟨q, 0, none⟩), .agg (stV s hp).toArray] w fun e w' => (e = .returned (.int .i64 L.length) ∧ ∃ v', Pg w' q v' st (L ++ [(s, hp)])) ∧ Below q w w' := by
  obtain ⟨i0, hi, hz0, hz1, hz2⟩ := info_parts info_state
  have c0 : w.cell? ⟨q, 0, none⟩ = some v := h.blk.cell 0 rfl
  have f0 := h.blk.free 0
  have hq := h.blk.lt
  have hown := h.own
  have hob : v.ownBlock ≠ some q := fun e => by have := (hown.lt q e).1; omega
  have h0 := h.blk
  have H := Lib.hid h
  have HS := Lib.hid hs
  clear h hs
  have hob2 : v.ownBlock ≠ some w.heap.size := fun e => by have := (hown.lt _ e).2; omega
  unfold stV
  generalize hpv : (hp.map fun b => (⟨b, 1, none⟩ : Addr)) = pa
  have HPV := Lib.hid hpv
  clear hpv
  obtain ⟨O, hO⟩ : ∃ O : Obj, O = .cells #[.int .i64 s.kind, .pointer pa, .int .i64 s.to, .int .i64 s.or] 85 := ⟨_, rfl⟩
  have d0 : Blk (w.alloc O) w.heap.size #[.int .i64 s.kind, .pointer pa, .int .i64 s.to, .int .i64 s.or] 85 := by rw [hO]; exact Blk.new w _ _
  have d1 : (w.alloc O).cell? ⟨w.heap.size, 0, none⟩ = some (.int .i64 s.kind) := d0.cell 0 rfl
  have hne : q ≠ w.heap.size := by omega

  have d2 : (w.alloc O).cell? ⟨w.heap.size, 1, none⟩ = some (.pointer pa) := d0.cell 1 rfl
  have d3 : (w.alloc O).cell? ⟨w.heap.size, 2, none⟩ = some (.int .i64 s.to) := d0.cell 2 rfl
  have d4 : (w.alloc O).cell? ⟨w.heap.size, 3, none⟩ = some (.int .i64 s.or) := d0.cell 3 rfl
  have d5 : ((w.alloc O).alloc O).drew.heap[w.heap.size + 1]? = some O := by
    have := heap_alloc_new (w.alloc O) O
    show ((w.alloc O).alloc O).heap[w.heap.size + 1]? = some O
    simpa using this
  have hown2 : ((w.alloc O).alloc O).drew.ownsRow (q + 1) 85 4 v L.length (row L) := ((hown.alloc O).alloc O).drew
  have hsz2 : ((w.alloc O).alloc O).drew.heap.size = w.heap.size + 2 := by simp
  have fq2 : ((w.alloc O).alloc O).drew.frozen? ⟨q, 0, none⟩ = false := (((h0.alloc O).alloc O).drew).free 0
  have cq1 : (w.alloc O).cell? ⟨q, 0, none⟩ = some v := (h0.alloc O).cell 0 rfl
  have cq2 : ((w.alloc O).alloc O).drew.cell? ⟨q, 0, none⟩ = some v := (((h0.alloc O).alloc O).drew).cell 0 rfl
  have cq3 : (w.alloc O).drew.cell? ⟨q, 0, none⟩ = some v := (((h0.alloc O)).drew).cell 0 rfl
  clear h0
  subst hO
  go_enter Tryz.func36, Tryz.ntmps36
  go_wp2_with fail
  go_region_law
    ((refine step_append_lies _ (by rfl) _ _ _ (by rfl) (q + 1) 85 i0 _ 4 32 Tryz.underlying79 hi hz0 hz1 hz2 rfl (by decide) v L.length (row L) (by rfl) hown2
        ⟨w.heap.size + 1, 0, none⟩ 1 1 [.int .i64 s.kind, .pointer pa, .int .i64 s.to, .int .i64 s.or] (by rfl) (by rfl) (World.news_of_block d5) (by simp [Value.oneCell'])
        (by decide) (by unfold maxLen; omega) (by omega) (by rw [hsz2]; omega) (w.heap.size + 2) hsz2 ?_; intro gg cap w1 hown1 hgrow hat hlt; have fq := hgrow.frozen_far (a := ⟨q, 0, none⟩) (by rw [hsz2]; show q < _; omega) (Ne.symm hob); rw [fq2] at fq; have cq := hgrow.cell_far ⟨q, 0, none⟩ (by rw [hsz2]; show q < _; omega) (Ne.symm hob); rw [cq2] at cq))
  all_goals
    have hk : Kept (fun k => v.ownBlock = some k) w w1 := kept_grown ((((Kept.refl _ w).alloc _).alloc _).drew) hgrow
    have hpp := H.out.pushed HS.out (by unfold stV; rw [HPV.out]; exact hown1) hk
    have HPP := Lib.hid hpp
    clear hpp hk hgrow hown1 hown2 hown d5 hsz2
    go_wp2_with fail
    go_ret
    exact ⟨⟨rfl, _, HPP.out.1⟩, HPP.out.2⟩

end Go.Proofs.YthdkbbkkijdhfaaGreatDoor

/-
  The walk of lay: its kinds without kids, and a row of nodes. Condition: the node lies in memory, below the states.
-/
namespace Go.Proofs.YthdkbbkkijdhfaaGreatDoor
open Go.RowKit Go.Shelf Go.Maps

/-- What laying hands back and leaves. -/
def LayPost (a : Nat × List Mx.St) (q : Nat) (w : World) (st : Int) (e : Ending) (w' : World) : Prop :=
  e = .returned (.int .i64 a.1) ∧ (∃ v' L', Pg w' q v' st L' ∧ sts L' = a.2) ∧ Below q w w'

/-- lay's contract. -/
def LayC (n : Rx.Nd) (p q : Nat) (w0 : World) : Prop :=
  ∀ (w : World) (v : Value) (st : Int) (L : Sts) (tgt : Nat), Below q w0 w → Pg w q v st L → Mx.Good (sts L) → tgt < L.length → (Mx.lay n tgt (sts L)).2.length ≤ 1000000 →
    Calls Tryz.prog 35 #[.pointer (some ⟨q, 0, none⟩), .pointer (some ⟨p, 0, none⟩), .int .i64 tgt] w (LayPost (Mx.lay n tgt (sts L)) q w st)

theorem lay_empty (p q : Nat) (w0 : World) (hb : Blk w0 p (ndCells 0 noHas 0 0 (.slice none 0 0)) 87) (hpq : p < q) : LayC .empty p q w0 := by
  intro w v st L tgt hw hpg hgo hto hlen
  have c0 := (hb.keep hw hpq).cell 0 (nd_kind _ _ _ _ _)
  have e : Mx.lay .empty tgt (sts L) = (tgt, sts L) := by rw [Mx.lay]
  rw [e]
  unfold LayPost
  have HPG := Lib.hid hpg
  clear hpg e
  go_enter Tryz.func35, Tryz.ntmps35
  go_wp2_with fail
  go_ret
  exact ⟨rfl, ⟨_, _, HPG.out, rfl⟩, Below.refl _ _⟩

theorem lay_set (p q : Nat) (h : Rx.Has) (w0 : World) (hb : Blk w0 p (setCells h) 87) (hpq : p < q) : LayC (.set h) p q w0 := by
  intro w v st L tgt hw hpg hgo hto hlen
  have hb' := hb.keep hw hpq
  have c0 := hb'.cell 0 (nd_kind _ _ _ _ _)
  have e : Mx.lay (.set h) tgt (sts L) = (L.length, sts L ++ [⟨0, h, tgt, 0⟩]) := by rw [Mx.lay, sts_len]
  rw [e] at hlen ⊢
  have hadd := add_any w q v st L ⟨0, h, tgt, 0⟩ (some p) hpg (by simp [sts_len] at hlen; omega) fun _ => ⟨p, rfl, hpq, fun i hi => hb'.cell (1 + i) (nd_has _ _ _ _ _ i hi)⟩
  unfold stV at hadd
  unfold LayPost
  clear hpg e hb hb'
  go_enter Tryz.func35, Tryz.ntmps35
  go_wp2_with fail
  refine hadd.mono ?_
  rintro e w' ⟨⟨rfl, v', hpg'⟩, hbl⟩
  have HPG := Lib.hid hpg'
  clear hpg' hadd
  go_wp2_with fail
  go_ret
  exact ⟨rfl, ⟨v', _, HPG.out, sts_app _ _⟩, hbl⟩

theorem lay_beg (p q : Nat) (w0 : World) (hb : Blk w0 p (ndCells 2 noHas 0 0 (.slice none 0 0)) 87) (hpq : p < q) : LayC .beg p q w0 := by
  intro w v st L tgt hw hpg hgo hto hlen
  have hb' := hb.keep hw hpq
  have c0 := hb'.cell 0 (nd_kind _ _ _ _ _)
  have e : Mx.lay .beg tgt (sts L) = (L.length, sts L ++ [⟨2, Mx.no, tgt, 0⟩]) := by rw [Mx.lay, sts_len]
  rw [e] at hlen ⊢
  have hadd := add_any w q v st L ⟨2, Mx.no, tgt, 0⟩ none hpg (by simp [sts_len] at hlen; omega) fun h => by simp at h
  unfold stV at hadd
  unfold LayPost
  clear hpg e hb hb'
  go_enter Tryz.func35, Tryz.ntmps35
  go_wp2_with fail
  refine hadd.mono ?_
  rintro e w' ⟨⟨rfl, v', hpg'⟩, hbl⟩
  have HPG := Lib.hid hpg'
  clear hpg' hadd
  go_wp2_with fail
  go_ret
  exact ⟨rfl, ⟨v', _, HPG.out, sts_app _ _⟩, hbl⟩

theorem lay_fin (p q : Nat) (w0 : World) (hb : Blk w0 p (ndCells 3 noHas 0 0 (.slice none 0 0)) 87) (hpq : p < q) : LayC .fin p q w0 := by
  intro w v st L tgt hw hpg hgo hto hlen
  have hb' := hb.keep hw hpq
  have c0 := hb'.cell 0 (nd_kind _ _ _ _ _)
  have e : Mx.lay .fin tgt (sts L) = (L.length, sts L ++ [⟨3, Mx.no, tgt, 0⟩]) := by rw [Mx.lay, sts_len]
  rw [e] at hlen ⊢
  have hadd := add_any w q v st L ⟨3, Mx.no, tgt, 0⟩ none hpg (by simp [sts_len] at hlen; omega) fun h => by simp at h
  unfold stV at hadd
  unfold LayPost
  clear hpg e hb hb'
  go_enter Tryz.func35, Tryz.ntmps35
  go_wp2_with fail
  refine hadd.mono ?_
  rintro e w' ⟨⟨rfl, v', hpg'⟩, hbl⟩
  have HPG := Lib.hid hpg'
  clear hpg' hadd
  go_wp2_with fail
  go_ret
  exact ⟨rfl, ⟨v', _, HPG.out, sts_app _ _⟩, hbl⟩

/-! ## Lists -/

theorem drop_kid (l : List Rx.Nd) (i : Nat) (hi : i < l.length) : l.drop i = l.getD i .empty :: l.drop (i + 1) := by
  rw [List.drop_eq_getElem_cons hi]
  simp [List.getD_eq_getElem?_getD, List.getElem?_eq_getElem hi]

theorem layCat_mono (tgt : Nat) (P : List Mx.St) (hg : Mx.Good P) (ht : tgt < P.length) : ∀ (pre l : List Rx.Nd), (Mx.layCat l tgt P).2.length ≤ (Mx.layCat (pre ++ l) tgt P).2.length := by
  intro pre l
  induction pre with
  | nil => exact Nat.le_refl _
  | cons k r ih =>
    have h1 := Mx.layCat_ok (r ++ l) tgt P hg ht
    rw [List.cons_append, Mx.layCat]
    exact Nat.le_trans ih (Mx.lay_ok k _ _ h1.good h1.lt).le

set_option maxHeartbeats 3200000 in
set_option maxRecDepth 100000 in
theorem lay_cat (p q k c : Nat) (l : List Rx.Nd) (ps : List Nat) (w0 : World) (hb : Blk w0 p (ndCells 4 noHas 0 0 (.slice (some ⟨k, 0, none⟩) l.length c)) 87) (hpq : p < q) (hkq : k < q)
    (hc : l.length ≤ c ∧ l.length ≤ 1073741824) (hpl : ps.length = l.length) (hps : Ptrs w0 k ps) (hn : ∀ i, i < l.length → LayC (l.getD i .empty) (ps.getD i 0) q w0) : LayC (.cat l) p q w0 := by
  intro w v st L tgt hw hpg hgo hto hlen
  have c0 := (hb.keep hw hpq).cell 0 (nd_kind _ _ _ _ _)
  have c3 := (hb.keep hw hpq).cell 259 (nd_kids _ _ _ _ _)
  have hto' : tgt < (sts L).length := by rw [sts_len]; exact hto
  have e : Mx.lay (.cat l) tgt (sts L) = Mx.layCat l tgt (sts L) := by rw [Mx.lay]
  rw [e] at hlen ⊢
  have HOK : Hid (∀ j, Mx.LayOk (sts L) (Mx.layCat (l.drop j) tgt (sts L)) ∧ (Mx.layCat (l.drop j) tgt (sts L)).2.length ≤ 1000000) := fun j =>
    ⟨Mx.layCat_ok _ _ _ hgo hto', by
      have := layCat_mono tgt (sts L) hgo hto' (l.take j) (l.drop j)
      rw [List.take_append_drop] at this
      omega⟩
  have HPS := Lib.hid hps
  have HN := Lib.hid hn
  have HB := Lib.hid hb
  have HPG := Lib.hid hpg
  have HW := Lib.hid hw
  unfold LayPost
  clear hps hn hb hpg hw e hgo hlen
  go_enter Tryz.func35, Tryz.ntmps35
  go_wp2_with fail
  go_loopw [2, 7] (fun x2 x7 wr => ∃ (j : Nat) (v' : Value) (L' : Sts), j ≤ l.length ∧ x2 = .int .i64 (Mx.layCat (l.drop j) tgt (sts L)).1 ∧ x7 = .int .i64 ((j : Int) - 1) ∧ Pg wr q v' st L' ∧ sts L' = (Mx.layCat (l.drop j) tgt (sts L)).2 ∧ Below q w wr) (fun _ x7 _ => (intOf x7 + 1).toNat)
  case atStart => exact ⟨l.length, v, L, Nat.le_refl _, by simp [Mx.layCat], rfl, HPG.out, by simp [Mx.layCat], Below.refl _ _⟩
  case round =>
    obtain ⟨j, v', L', hj, rfl, rfl, hpg, hst, hbw⟩ := hrel
    cases j with
    | zero =>
      have HP2 := Lib.hid hpg
      have HS2 := Lib.hid hst
      have HB2 := Lib.hid hbw
      rw [List.drop_zero] at HS2 ⊢
      clear hpg hst hbw
      go_wp2_with fail
      go_ret
      exact ⟨rfl, ⟨_, _, HP2.out, HS2.out⟩, HB2.out⟩
    | succ j =>
      have hkid := drop_kid l j (by omega)
      have hok := HOK.out (j + 1)
      have hok2 := HOK.out j
      have hb2 := HB.out.keep (HW.out.trans hbw) hpq
      have cr0 : wr.cell? ⟨p, 0, none⟩ = some (.int .i64 4) := hb2.cell 0 (nd_kind _ _ _ _ _)
      have cr3 : wr.cell? ⟨p, 259, none⟩ = some (.slice (some ⟨k, 0, none⟩) l.length c) := hb2.cell 259 (nd_kids _ _ _ _ _)
      have hwr := HW.out.trans hbw
      have cq : wr.cell? ⟨k, j, none⟩ = some (.pointer (some ⟨ps.getD j 0, 0, none⟩)) := by
        have := HPS.out j (by omega)
        rw [hwr.cell (p := ⟨k, j, none⟩) hkq]
        exact this
      rw [hkid, Mx.layCat] at hok2
      have HLC : Hid (Mx.layCat (l.drop j) tgt (sts L) = Mx.lay (l.getD j .empty) (Mx.layCat (l.drop (j + 1)) tgt (sts L)).1 (Mx.layCat (l.drop (j + 1)) tgt (sts L)).2) := by
        show _ = _
        rw [hkid, Mx.layCat]
      generalize Mx.layCat (l.drop (j + 1)) tgt (sts L) = a at *
      obtain ⟨t2, P2⟩ := a
      simp only at hst hok hok2 HLC ⊢
      subst hst
      have hcall := HN.out j (by omega) wr v' st L' t2 hwr hpg hok.1.good (by have := hok.1.lt; rw [sts_len] at this; exact this) hok2.2
      unfold LayPost at hcall
      have HBW := Lib.hid hbw
      clear hok hok2 hkid hpg hb2 hwr hbw
      generalize Mx.lay (l.getD j .empty) t2 (sts L') = a2 at *
      generalize ps.getD j 0 = pj at *
      have hj1 : ((j + 1 : Nat) : Int) - 1 = (j : Int) := by omega
      rw [hj1]
      go_wp2_with fail
      refine hcall.mono ?_
      rintro e w3 ⟨rfl, ⟨v3, L3, hpg3, hst3⟩, hb3⟩
      have HP3 := Lib.hid hpg3
      have HS3 := Lib.hid hst3
      have HB3 := Lib.hid hb3
      clear hpg3 hst3 hb3 hcall
      go_wp2_with fail
      refine ⟨⟨j, v3, L3, by omega, by rw [HLC.out], by go_num, HP3.out, by rw [HLC.out]; exact HS3.out, HBW.out.trans HB3.out⟩, ?_⟩
      show ((j : Int) - 1 + 1).toNat < ((j : Int) + 1).toNat
      omega

end Go.Proofs.YthdkbbkkijdhfaaGreatDoor

/-
  The walk of lay: one of a list. Condition: the node lies in memory, below the states.
-/
namespace Go.Proofs.YthdkbbkkijdhfaaGreatDoor
open Go.RowKit Go.Shelf Go.Maps

theorem Pg.drew {w : World} {q : Nat} {v : Value} {st : Int} {L : Sts} (h : Pg w q v st L) : Pg w.drew q v st L := ⟨h.blk, h.own.drew, fun x hx h0 => h.has x hx h0⟩
theorem below_drew (q : Nat) (w : World) : Below q w w.drew := ⟨rfl, rfl, rfl, Nat.le_refl _, fun _ _ => rfl⟩
theorem below_drew' (q : Nat) (w w' : World) (h : Below q w.drew w') : Below q w w' := ⟨h.os, h.tape, h.output, h.size, h.block⟩

theorem layAlt_cons (k : Rx.Nd) (r : List Rx.Nd) (hr : r ≠ []) (tgt : Nat) (L : List Mx.St) :
    Mx.layAlt (k :: r) tgt L = ((Mx.lay k tgt (Mx.layAlt r tgt L).2).2.length, (Mx.lay k tgt (Mx.layAlt r tgt L).2).2 ++ [⟨1, Mx.no, (Mx.lay k tgt (Mx.layAlt r tgt L).2).1, (Mx.layAlt r tgt L).1⟩]) := by
  cases r with
  | nil => exact absurd rfl hr
  | cons k2 r =>
    rw [Mx.layAlt_two]

theorem layAlt_mono (tgt : Nat) (P : List Mx.St) (hg : Mx.Good P) (ht : tgt < P.length) : ∀ (pre l : List Rx.Nd), l ≠ [] → (Mx.layAlt l tgt P).2.length ≤ (Mx.layAlt (pre ++ l) tgt P).2.length := by
  intro pre l hl
  induction pre with
  | nil => exact Nat.le_refl _
  | cons k r ih =>
    have h1 := Mx.layAlt_ok (r ++ l) tgt P hg ht
    have h2 := Mx.lay_ok k tgt _ h1.good (Nat.lt_of_lt_of_le ht h1.le)
    rw [List.cons_append, layAlt_cons _ _ (by simp [hl])]
    have := h2.le
    simp only [List.length_append, List.length_singleton]
    omega

set_option maxHeartbeats 3200000 in
set_option maxRecDepth 100000 in
theorem lay_alt (p q k c : Nat) (l : List Rx.Nd) (ps : List Nat) (w0 : World) (hb : Blk w0 p (ndCells 5 noHas 0 0 (.slice (some ⟨k, 0, none⟩) l.length c)) 87) (hpq : p < q) (hkq : k < q) (h1 : 1 < l.length)
    (hc : l.length ≤ c ∧ l.length ≤ 1073741824) (hpl : ps.length = l.length) (hps : Ptrs w0 k ps) (hn : ∀ i, i < l.length → LayC (l.getD i .empty) (ps.getD i 0) q w0) : LayC (.alt l) p q w0 := by
  intro w v st L tgt hw hpg hgo hto hlen
  have c0 := (hb.keep hw hpq).cell 0 (nd_kind _ _ _ _ _)
  have c3 := (hb.keep hw hpq).cell 259 (nd_kids _ _ _ _ _)
  have hto' : tgt < (sts L).length := by rw [sts_len]; exact hto
  have e : Mx.lay (.alt l) tgt (sts L) = Mx.layAlt l tgt (sts L) := by rw [Mx.lay]
  rw [e] at hlen ⊢
  have HOK : Hid (∀ j, j < l.length → Mx.LayOk (sts L) (Mx.layAlt (l.drop j) tgt (sts L)) ∧ (Mx.layAlt (l.drop j) tgt (sts L)).2.length ≤ 1000000) := fun j hj =>
    ⟨Mx.layAlt_ok _ _ _ hgo hto', by
      have := layAlt_mono tgt (sts L) hgo hto' (l.take j) (l.drop j) (by intro e; have := congrArg List.length e; simp at this; omega)
      rw [List.take_append_drop] at this
      omega⟩
  have HOL := Lib.hid (Mx.LayOk.refl hgo hto')
  obtain ⟨N, hN⟩ : ∃ N, l.length = N := ⟨_, rfl⟩
  obtain ⟨m, hm⟩ : ∃ m, N = m + 2 := ⟨N - 2, by omega⟩
  have i0 : (0 : Int) ≤ (N : Int) - 1 := by omega
  have i1 : (N : Int) - 1 < (N : Int) := by omega
  have cq : w.cell? ⟨k, m + 1, none⟩ = some (.pointer (some ⟨ps.getD (m + 1) 0, 0, none⟩)) := by
    have := hps (m + 1) (by omega)
    rw [hw.cell (p := ⟨k, m + 1, none⟩) hkq]
    exact this
  have hlast : Mx.layAlt (l.drop (m + 1)) tgt (sts L) = Mx.lay (l.getD (m + 1) .empty) tgt (sts L) := by
    rw [drop_kid l (m + 1) (by omega), List.drop_eq_nil_of_le (by omega), Mx.layAlt_one]
  rw [hN] at c3 hc
  have i2 : IntKind.i64.wrap ((N : Int) - 1) = (N : Int) - 1 := by simp [IntKind.wrap, IntKind.signed, IntKind.bits]; omega
  have i4 : (1 : Int) ≤ (N : Int) := by omega
  have i5 : 1 ≤ N := by omega
  have i6 : 0 < N := by omega
  have i3 : ((N : Int) - 1).toNat = N - 1 := by omega
  have hcall := hn (m + 1) (by omega) w.drew v st L tgt (hw.trans (below_drew q w)) hpg.drew hgo hto (by rw [← hlast]; exact (HOK.out (m + 1) (by omega)).2)
  unfold LayPost at hcall
  rw [← hlast] at hcall
  have HPS := Lib.hid hps
  have HN := Lib.hid hn
  have HB := Lib.hid hb
  have HW := Lib.hid hw
  have HM := Lib.hid hm
  have HNL := Lib.hid hN
  have HGO := Lib.hid hgo
  unfold LayPost
  clear hps hn hb hpg hw e hgo hlen hlast hN h1
  generalize hA : Mx.layAlt (l.drop (m + 1)) tgt (sts L) = a at *
  have HA := Lib.hid hA
  clear hA
  generalize hpj : ps.getD (m + 1) 0 = pj at *
  clear hpj
  rw [show m + 1 = N - 1 by omega] at cq
  clear hm
  go_enter Tryz.func35, Tryz.ntmps35
  go_wp2_with fail
  go_region_held3 (fun w' => w'.cell? ⟨p, 259, none⟩ = some (.slice (some ⟨k, 0, none⟩) N c) ∧ w'.cell? ⟨k, N - 1, none⟩ = some (.pointer (some ⟨pj, 0, none⟩)))
    (first | go_keep | (exact ⟨HK3, HQ3⟩))
    ((go_at_call 35; refine hcall.mono ?_; rintro e w3 ⟨rfl, ⟨v3, L3, hpg3, hst3⟩, hb3⟩; have HK3 : w3.cell? ⟨p, 259, none⟩ = some (.slice (some ⟨k, 0, none⟩) N c) := (by rw [hb3.cell (p := ⟨p, 259, none⟩) hpq]; exact c3); have HQ3 : w3.cell? ⟨k, N - 1, none⟩ = some (.pointer (some ⟨pj, 0, none⟩)) := (by rw [hb3.cell (p := ⟨k, N - 1, none⟩) hkq]; exact cq)))
  have HP3 := Lib.hid hpg3
  have HS3 := Lib.hid hst3
  have HB3 := Lib.hid (below_drew' q w w3 hb3)
  clear hpg3 hst3 hb3 hcall cq HQ3 i3
  go_wp2_with fail
  go_loopw [8, 9] (fun x8 x9 wr => ∃ (j : Nat) (v' : Value) (L' : Sts), j + 1 ≤ N ∧ x8 = .int .i64 (Mx.layAlt (l.drop j) tgt (sts L)).1 ∧ x9 = .int .i64 ((j : Int) - 1) ∧ Pg wr q v' st L' ∧ sts L' = (Mx.layAlt (l.drop j) tgt (sts L)).2 ∧ Below q w wr) (fun _ x9 _ => (intOf x9 + 1).toNat)
  case atStart => exact ⟨m + 1, v3, L3, by have := HM.out; omega, by rw [HA.out], by have := HM.out; congr 1; omega, HP3.out, by rw [HA.out]; exact HS3.out, HB3.out⟩
  case round =>
    obtain ⟨j, v', L', hj, rfl, rfl, hpg, hst, hbw⟩ := hrel
    cases j with
    | zero =>
      have HP2 := Lib.hid hpg
      have HS2 := Lib.hid hst
      have HB2 := Lib.hid hbw
      rw [List.drop_zero] at HS2 ⊢
      clear hpg hst hbw
      go_wp2_with fail
      go_ret
      exact ⟨rfl, ⟨_, _, HP2.out, HS2.out⟩, HB2.out⟩
    | succ j =>
      have hlN := HNL.out
      have hkid := drop_kid l j (by omega)
      have hok := HOK.out (j + 1) (by omega)
      have hok2 := HOK.out j (by omega)
      have hb2 := HB.out.keep (HW.out.trans hbw) hpq
      have cr0 : wr.cell? ⟨p, 0, none⟩ = some (.int .i64 5) := hb2.cell 0 (nd_kind _ _ _ _ _)
      have cr3 : wr.cell? ⟨p, 259, none⟩ = some (.slice (some ⟨k, 0, none⟩) N c) := by have := hb2.cell 259 (nd_kids _ _ _ _ _); rw [hlN] at this; exact this
      have hwr := HW.out.trans hbw
      have cq : wr.cell? ⟨k, j, none⟩ = some (.pointer (some ⟨ps.getD j 0, 0, none⟩)) := by
        have := HPS.out j (by omega)
        rw [hwr.cell (p := ⟨k, j, none⟩) hkq]
        exact this
      have hcons := layAlt_cons (l.getD j .empty) (l.drop (j + 1)) (by intro e; have := congrArg List.length e; simp at this; omega) tgt (sts L)
      rw [← hkid] at hcons
      rw [hcons] at hok2
      have HLC := Lib.hid hcons
      clear hcons hkid
      generalize Mx.layAlt (l.drop (j + 1)) tgt (sts L) = a2 at *
      obtain ⟨t2, P2⟩ := a2
      simp only at hst hok hok2 HLC ⊢
      subst hst
      have hlen2 := hok2.2
      simp only [List.length_append, List.length_singleton] at hlen2
      have hle := hok.1.le
      rw [sts_len, sts_len] at hle
      have hcall := HN.out j (by omega) wr v' st L' tgt hwr hpg hok.1.good (by omega) (by omega)
      unfold LayPost at hcall
      have HBW := Lib.hid hbw
      clear hok hok2 hpg hb2 hwr hbw hle c0 c3 HK3
      generalize Mx.lay (l.getD j .empty) tgt (sts L') = a3 at *
      generalize ps.getD j 0 = pj2 at *
      have hj1 : ((j + 1 : Nat) : Int) - 1 = (j : Int) := by omega
      rw [hj1]
      go_wp2_with fail
      refine hcall.mono ?_
      rintro e w4 ⟨rfl, ⟨v4, L4, hpg4, hst4⟩, hb4⟩
      have hl4 : L4.length + 1 ≤ 1000000 := by rw [← sts_len, hst4]; exact hlen2
      have hadd := add_any w4 q v4 st L4 ⟨1, Mx.no, a3.1, t2⟩ none hpg4 (by omega) fun h => by simp at h
      unfold stV at hadd
      have HS4 := Lib.hid hst4
      have HB4 := Lib.hid (HBW.out.trans hb4)
      clear hpg4 hst4 hb4 hcall cq
      go_wp2_with fail
      refine hadd.mono ?_
      rintro e w5 ⟨⟨rfl, v5, hpg5⟩, hb5⟩
      have HP5 := Lib.hid hpg5
      have HB5 := Lib.hid (HB4.out.trans hb5)
      have HL4 : Hid ((L4.length : Int) = a3.2.length) := by show _ = _; rw [← HS4.out, sts_len]
      clear hpg5 hb5 hadd
      go_wp2_with fail
      refine ⟨⟨j, v5, _, by omega, by rw [HLC.out]; simp only; rw [HL4.out], by go_num, HP5.out, by rw [HLC.out, sts_app, HS4.out]; rfl, HB5.out⟩, ?_⟩
      show ((j : Int) - 1 + 1).toNat < ((j : Int) + 1).toNat
      omega

end Go.Proofs.YthdkbbkkijdhfaaGreatDoor
