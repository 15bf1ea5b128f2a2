/-
  States in memory; the walk of add. Condition: there are no more than a million states.
-/
import Derived.Test.YthdkbbkkijdhfaaGreatDoorW25
import Derived.Test.YthdkbbkkijdhfaaGreatDoorMy
import Derived.Maps.AppendAt
import Derived.Deep.RegionLaw
import Derived.Deep.AppendLies
namespace Go.Proofs.YthdkbbkkijdhfaaGreatDoor
open Go.RowKit Go.Shelf Go.Maps

/-- A state's cells; the place of its set is told by the node's block. -/
def stV (s : Mx.St) (h : Option Nat) : List Value := [.int .i64 s.kind, .pointer (h.map fun b => ⟨b, 1, none⟩), .int .i64 s.to, .int .i64 s.or]
/-- States with the blocks of their sets' nodes. -/
abbrev Sts := List (Mx.St × Option Nat)
def row (L : Sts) : List Value := L.flatMap fun x => stV x.1 x.2
def sts (L : Sts) : List Mx.St := L.map (·.1)

theorem row_app (L K : Sts) : row (L ++ K) = row L ++ row K := by simp [row]
theorem row_len (L : Sts) : (row L).length = L.length * 4 := by
  induction L with
  | nil => rfl
  | cons x r ih => simp [row, stV] at ih ⊢; omega
theorem sts_app (L K : Sts) : sts (L ++ K) = sts L ++ sts K := by simp [sts]
theorem sts_len (L : Sts) : (sts L).length = L.length := by simp [sts]

/-- A node's set, in memory. -/
def HasAt (w : World) (b : Nat) (h : Rx.Has) : Prop := ∀ i, i < 256 → w.cell? ⟨b, 1 + i, none⟩ = some (.bool (h (UInt8.ofNat i)))
theorem HasAt.kept {S : Nat → Prop} {w w' : World} {b : Nat} {h : Rx.Has} (hh : HasAt w b h) (hk : Kept S w w') (hS : ¬ S b) : HasAt w' b h := by
  intro i hi
  have := hh i hi
  have hlt : b < w.heap.size := World.block_lt_of_cell? _ _ this
  rw [← this]
  unfold World.cell?
  simp only
  rw [hk.block b hlt hS]

/-- An expression that is ready, in memory. -/
structure Pg (w : World) (q : Nat) (v : Value) (st : Int) (L : Sts) : Prop where
  blk : Blk w q #[v, .int .i64 st] 81
  own : w.ownsRow (q + 1) 85 4 v L.length (row L)
  has : ∀ x ∈ L, x.1.kind = 0 → ∃ b, x.2 = some b ∧ b < q ∧ HasAt w b x.1.has

theorem own_form' {w : World} {base : Nat} {e : TypeId} {size : Nat} {v : Value} {n : Nat} {xs : List Value} (h : w.ownsRow base e size v n xs) : (v = .slice none 0 0 ∧ n = 0) ∨ ∃ g c, v = .slice (some ⟨g, 0, none⟩) n c ∧ base ≤ g ∧ n ≤ c := by
  rcases h.2 with h1 | ⟨g, cap, cur, e, h2, -, h3, -⟩
  · exact .inl h1
  · exact .inr ⟨g, cap, e, h2, h3⟩

theorem own_kept {S : Nat → Prop} {w w' : World} {B : Nat} {t : TypeId} {size n : Nat} {v : Value} {xs : List Value} (h : w.ownsRow B t size v n xs) (hk : Kept S w w') (hS : ∀ k, v.ownBlock = some k → ¬ S k) : w'.ownsRow B t size v n xs := by
  obtain ⟨h1, h2 | ⟨g, cap, cur, e, hg, hb, r⟩⟩ := h
  · exact ⟨h1, .inl h2⟩
  · exact ⟨h1, .inr ⟨g, cap, cur, e, hg, (hk.block g (lt_of_block hb) (hS g (by rw [e]; rfl))).trans hb, r⟩⟩

/-- Below a block: nothing below has turned. -/
theorem Kept.of_lower {B : Nat} {w w' : World} (h : Below B w w') : Kept (fun k => B ≤ k) w w' := ⟨h.os, h.tape, h.output, h.size, fun k _ hs => h.block k (Nat.lt_of_not_le hs)⟩

theorem kept_grown {w w2 w1 : World} {o : Option Nat} (h : Kept (fun _ => False) w w2) (hg : w2.grownBy w1 o) : Kept (fun k => o = some k) w w1 :=
  ⟨hg.os.trans h.os, hg.tape.trans h.tape, hg.output.trans h.output, Nat.le_trans h.size hg.size, fun k hk hs => (hg.block k (Nat.lt_of_lt_of_le hk h.size) fun e => hs e.symm).trans (h.block k hk id)⟩

theorem Pg.pushed {w w1 : World} {q : Nat} {v v' : Value} {st : Int} {L : Sts} {s : Mx.St} {hp : Option Nat} (h : Pg w q v st L) (hs : s.kind = 0 → ∃ b, hp = some b ∧ b < q ∧ HasAt w b s.has)
    (hown1 : w1.ownsRow (q + 1) 85 4 v' (L.length + 1) (row L ++ stV s hp)) (hk : Kept (fun k => v.ownBlock = some k) w w1) :
    Pg (w1.setCell ⟨q, 0, none⟩ v') q v' st (L ++ [(s, hp)]) ∧ Below q w (w1.setCell ⟨q, 0, none⟩ v') := by
  have hob : ∀ k, v.ownBlock = some k → q + 1 ≤ k := fun k e => (h.own.lt k e).1
  have hq := h.blk.lt
  have hk2 : Kept (fun k => q ≤ k) w (w1.setCell ⟨q, 0, none⟩ v') := (hk.mono fun k _ e => by have := hob k e; omega).setCell (.inl (Nat.le_refl _)) 0 v'
  refine ⟨⟨?_, ?_, ?_⟩, hk2.os, hk2.tape, hk2.output, hk2.size, fun k hk' => hk2.block k (by omega) (by omega)⟩
  · have := (h.blk.kept hk fun e => by have := hob q e; omega).set 0 v'
    exact this
  · rw [row_app, List.length_append]
    refine own_kept (S := (· = q)) (w := w1) ?_ ((Kept.refl (· = q) w1).setCell (.inl rfl) 0 v') ?_
    · simpa [row] using hown1
    · rintro k e rfl
      have := (hown1.lt k e).1
      omega
  · intro x hx hx0
    rcases List.mem_append.1 hx with hx | hx
    · obtain ⟨b, e, hb, hh⟩ := h.has x hx hx0
      exact ⟨b, e, hb, hh.kept hk2 (by omega)⟩
    · obtain rfl : x = (s, hp) := by simpa using hx
      obtain ⟨b, e, hb, hh⟩ := hs hx0
      exact ⟨b, e, hb, hh.kept hk2 (by omega)⟩

theorem info_state : (Tryz.prog.info? 85).map (fun i => (i.zero, i.size, i.bytes)) = some (some (.agg #[.int .i64 0, .pointer none, .int .i64 0, .int .i64 0]), 4, 32) := by kernel_rfl

theorem cells_new (w : World) (cs : Array Value) (t : TypeId) : ∀ j u, cs.toList[j]? = some u → (w.alloc (.cells cs t)).cell? ((⟨w.heap.size, 0, none⟩ : Addr).add j) = some u := by
  intro j u h
  rw [show ((⟨w.heap.size, 0, none⟩ : Addr).add j) = ⟨w.heap.size, j, none⟩ by simp only [Addr.add]; split <;> simp_all]
  exact Blk.cell (Blk.new w cs t) j (by simpa using h)

set_option maxHeartbeats 1600000 in
set_option maxRecDepth 100000 in
theorem add_any (w : World) (q : Nat) (v : Value) (st : Int) (L : Sts) (s : Mx.St) (hp : Option Nat) (h : Pg w q v st L) (hl : L.length ≤ 1000000) (hs : s.kind = 0 → ∃ b, hp = some b ∧ b < q ∧ HasAt w b s.has) :
    Calls Tryz.prog 36 #[.pointer (some ⟨q, 0, none⟩), .agg (stV s hp).toArray] w fun e w' => (e = .returned (.int .i64 L.length) ∧ ∃ v', Pg w' q v' st (L ++ [(s, hp)])) ∧ Below q w w' := by
  obtain ⟨i0, hi, hz0, hz1, hz2⟩ := info_parts info_state
  have c0 : w.cell? ⟨q, 0, none⟩ = some v := h.blk.cell 0 rfl
  have f0 := h.blk.free 0
  have hq := h.blk.lt
  have hown := h.own
  have hob : v.ownBlock ≠ some q := fun e => by have := (hown.lt q e).1; omega
  have h0 := h.blk
  have H := Lib.hid h
  have HS := Lib.hid hs
  clear h hs
  have hob2 : v.ownBlock ≠ some w.heap.size := fun e => by have := (hown.lt _ e).2; omega
  unfold stV
  generalize hpv : (hp.map fun b => (⟨b, 1, none⟩ : Addr)) = pa
  have HPV := Lib.hid hpv
  clear hpv
  obtain ⟨O, hO⟩ : ∃ O : Obj, O = .cells #[.int .i64 s.kind, .pointer pa, .int .i64 s.to, .int .i64 s.or] 85 := ⟨_, rfl⟩
  have d0 : Blk (w.alloc O) w.heap.size #[.int .i64 s.kind, .pointer pa, .int .i64 s.to, .int .i64 s.or] 85 := by rw [hO]; exact Blk.new w _ _
  have d1 : (w.alloc O).cell? ⟨w.heap.size, 0, none⟩ = some (.int .i64 s.kind) := d0.cell 0 rfl
  have hne : q ≠ w.heap.size := by omega

  have d2 : (w.alloc O).cell? ⟨w.heap.size, 1, none⟩ = some (.pointer pa) := d0.cell 1 rfl
  have d3 : (w.alloc O).cell? ⟨w.heap.size, 2, none⟩ = some (.int .i64 s.to) := d0.cell 2 rfl
  have d4 : (w.alloc O).cell? ⟨w.heap.size, 3, none⟩ = some (.int .i64 s.or) := d0.cell 3 rfl
  have d5 : ((w.alloc O).alloc O).drew.heap[w.heap.size + 1]? = some O := by
    have := heap_alloc_new (w.alloc O) O
    show ((w.alloc O).alloc O).heap[w.heap.size + 1]? = some O
    simpa using this
  have hown2 : ((w.alloc O).alloc O).drew.ownsRow (q + 1) 85 4 v L.length (row L) := ((hown.alloc O).alloc O).drew
  have hsz2 : ((w.alloc O).alloc O).drew.heap.size = w.heap.size + 2 := by simp
  have fq2 : ((w.alloc O).alloc O).drew.frozen? ⟨q, 0, none⟩ = false := (((h0.alloc O).alloc O).drew).free 0
  have cq1 : (w.alloc O).cell? ⟨q, 0, none⟩ = some v := (h0.alloc O).cell 0 rfl
  have cq2 : ((w.alloc O).alloc O).drew.cell? ⟨q, 0, none⟩ = some v := (((h0.alloc O).alloc O).drew).cell 0 rfl
  have cq3 : (w.alloc O).drew.cell? ⟨q, 0, none⟩ = some v := (((h0.alloc O)).drew).cell 0 rfl
  clear h0
  subst hO
  go_enter Tryz.func36, Tryz.ntmps36
  go_wp2_with fail
  go_region_law
    ((refine step_append_lies _ (by rfl) _ _ _ (by rfl) (q + 1) 85 i0 _ 4 32 Tryz.underlying79 hi hz0 hz1 hz2 rfl (by decide) v L.length (row L) (by rfl) hown2
        ⟨w.heap.size + 1, 0, none⟩ 1 1 [.int .i64 s.kind, .pointer pa, .int .i64 s.to, .int .i64 s.or] (by rfl) (by rfl) (World.news_of_block d5) (by simp [Value.oneCell'])
        (by decide) (by unfold maxLen; omega) (by omega) (by rw [hsz2]; omega) (w.heap.size + 2) hsz2 ?_; intro gg cap w1 hown1 hgrow hat hlt; have fq := hgrow.frozen_far (a := ⟨q, 0, none⟩) (by rw [hsz2]; show q < _; omega) (Ne.symm hob); rw [fq2] at fq; have cq := hgrow.cell_far ⟨q, 0, none⟩ (by rw [hsz2]; show q < _; omega) (Ne.symm hob); rw [cq2] at cq))
  all_goals
    have hk : Kept (fun k => v.ownBlock = some k) w w1 := kept_grown ((((Kept.refl _ w).alloc _).alloc _).drew) hgrow
    have hpp := H.out.pushed HS.out (by unfold stV; rw [HPV.out]; exact hown1) hk
    have HPP := Lib.hid hpp
    clear hpp hk hgrow hown1 hown2 hown d5 hsz2
    go_wp2_with fail
    go_ret
    exact ⟨⟨rfl, _, HPP.out.1⟩, HPP.out.2⟩

end Go.Proofs.YthdkbbkkijdhfaaGreatDoor
