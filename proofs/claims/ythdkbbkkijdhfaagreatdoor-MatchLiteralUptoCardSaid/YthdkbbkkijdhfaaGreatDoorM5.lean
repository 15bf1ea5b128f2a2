/-
  The walks of lay (any node) and New. Condition: the node lies in memory; it makes no more than a million states.
-/
import Derived.Test.YthdkbbkkijdhfaaGreatDoorM4
namespace Go.Proofs.YthdkbbkkijdhfaaGreatDoor
open Go.RowKit Go.Shelf Go.Maps

theorem reNode_any (w : World) (q p : Nat) (t : TypeId) (hb : Blk w q #[.pointer (some ⟨p, 0, none⟩)] t) :
    Calls Tryz.prog 19 #[.pointer (some ⟨q, 0, none⟩)] w fun e w' => e = .returned (.pointer (some ⟨p, 0, none⟩)) ∧ w' = w := by
  have c0 : w.cell? ⟨q, 0, none⟩ = some (.pointer (some ⟨p, 0, none⟩)) := hb.cell 0 rfl
  go_enter Tryz.func19, Tryz.ntmps19
  go_wp2_with fail
  go_ret
  exact ⟨rfl, rfl⟩

theorem lay_rep (p q k kq m : Nat) (most : Int) (n : Rx.Nd) (w0 : World) (hb : Blk w0 p (ndCells 6 noHas m most (.slice (some ⟨k, 0, none⟩) 1 1)) 87) (hpq : p < q) (hkq : k < q)
    (hps : Ptrs w0 k [kq]) (hm : m ≤ 255 ∧ -1 ≤ most ∧ most ≤ 255) (hn : LayC n kq q w0) : LayC (.rep m most n) p q w0 := by
  intro w v st L tgt hw hpg hgo hto hlen
  have c0 := (hb.keep hw hpq).cell 0 (nd_kind _ _ _ _ _)
  have hrep := repeat_any p q k kq m most n w0 hb hpq hkq hps hm hn w v st L tgt hw hpg hgo hto hlen
  generalize Mx.lay (.rep m most n) tgt (sts L) = a at *
  unfold LayPost at hrep ⊢
  clear hb hpg hw hps hn hgo
  go_enter Tryz.func35, Tryz.ntmps35
  go_wp2_with fail
  refine hrep.mono ?_
  rintro e w' ⟨rfl, h2, h3⟩
  have H2 := Lib.hid h2
  have H3 := Lib.hid h3
  clear h2 h3 hrep
  go_wp2_with fail
  go_ret
  exact ⟨rfl, H2.out, H3.out⟩

theorem lay_any {M : Nat → Prop} {w0 : World} {p : Nat} {n : Rx.Nd} (h : NdIn w0 M p n) (q : Nat) (hM : ∀ b, M b → b < q) : LayC n p q w0 := by
  induction h with
  | empty hp hb => exact lay_empty _ q w0 hb (hM _ hp)
  | set hp hb => exact lay_set _ q _ w0 hb (hM _ hp)
  | beg hp hb => exact lay_beg _ q w0 hb (hM _ hp)
  | fin hp hb => exact lay_fin _ q w0 hb (hM _ hp)
  | cat hp hb h0 hc hk hl hps _ ih => exact lay_cat _ q _ _ _ _ w0 hb (hM _ hp) (hM _ hk) hc hl hps ih
  | alt hp hb h0 hc hk hl hps _ ih => exact lay_alt _ q _ _ _ _ w0 hb (hM _ hp) (hM _ hk) h0 hc hl hps ih
  | rep hp hb hk hps _ hm ih => exact lay_rep _ q _ _ _ _ _ w0 hb (hM _ hp) (hM _ hk) hps hm ih

theorem Pg.start {w : World} {q : Nat} {v : Value} {st : Int} {L : Sts} (h : Pg w q v st L) (s : Int) : Pg (w.setCell ⟨q, 1, none⟩ (.int .i64 s)) q v s L ∧ Below q w (w.setCell ⟨q, 1, none⟩ (.int .i64 s)) := by
  have hk : Kept (· = q) w (w.setCell ⟨q, 1, none⟩ (.int .i64 s)) := (Kept.refl (· = q) w).setCell (.inl rfl) 1 _
  refine ⟨⟨h.blk.set 1 _, own_kept h.own hk ?_, ?_⟩, hk.os, hk.tape, hk.output, hk.size, fun k hk' => hk.block k (by have := h.blk.lt; omega) (by omega)⟩
  · rintro k e rfl
    have := (h.own.lt k e).1
    omega
  · intro x hx h0
    obtain ⟨b, e, hb, hh⟩ := h.has x hx h0
    exact ⟨b, e, hb, hh.kept hk (by omega)⟩

/-- The states of an expression, and where they begin. -/
def progOf (n : Rx.Nd) : Nat × List Mx.St := Mx.lay n 0 [⟨4, Mx.no, 0, 0⟩]

/-- An expression that is ready, handed back. -/
def NewPost (a : Nat × List Mx.St) (q : Nat) (e : Ending) (w' : World) : Prop :=
  e = .returned (.pointer (some ⟨q, 0, none⟩)) ∧ ∃ v L, Pg w' q v a.1 L ∧ sts L = a.2

set_option maxHeartbeats 3200000 in
set_option maxRecDepth 100000 in
theorem New_any (B r : Nat) (n : Rx.Nd) (w : World) (h : ReAt w B r n) (hlen : (progOf n).2.length ≤ 1000000) :
    Calls Tryz.prog 15 #[.pointer (some ⟨r, 0, none⟩)] w fun e w' => NewPost (progOf n) w.heap.size e w' ∧ Below w.heap.size w w' := by
  obtain ⟨p, hb, hB, hn⟩ := h
  generalize hA : progOf n = a at hlen ⊢
  have HPO : Hid (Mx.lay n 0 (sts ([] ++ [((⟨4, Mx.no, 0, 0⟩ : Mx.St), (none : Option Nat))])) = a) := hA
  clear hA
  unfold NewPost
  have hpg : Pg (w.alloc (.cells #[.slice none 0 0, .int .i64 0] 81)) w.heap.size (.slice none 0 0) 0 [] :=
    ⟨Blk.new w _ _, World.ownsRow_nil _ _ _ _, fun x hx => by cases hx⟩
  have hbl : Below w.heap.size w (w.alloc (.cells #[.slice none 0 0, .int .i64 0] 81)) := (Below.refl _ _).alloc (Nat.le_refl _) _
  have HN := Lib.hid hn
  have HB := Lib.hid hb
  clear hb hn
  go_enter Tryz.func15, Tryz.ntmps15
  go_wp2_with fail
  have hnode := reNode_any (w.alloc (.cells #[.slice none 0 0, .int .i64 0] 81)) r p _ (HB.out.alloc _)
  refine hnode.mono ?_
  rintro e w1 ⟨rfl, rfl⟩
  have hadd := add_any (w.alloc (.cells #[.slice none 0 0, .int .i64 0] 81)) w.heap.size _ 0 [] ⟨4, Mx.no, 0, 0⟩ none hpg (by decide) fun h => by simp at h
  unfold stV at hadd
  clear hnode
  go_wp2_with fail
  refine hadd.mono ?_
  rintro e w2 ⟨⟨rfl, v2, hpg2⟩, hb2⟩
  have hbw2 := hbl.trans hb2
  have hcall := lay_any HN.out.lt w.heap.size (fun b hb => hb.2) w2 v2 0 _ 0 hbw2 hpg2 (fun s hs => by
    have : s = ⟨4, Mx.no, 0, 0⟩ := by simpa [sts] using hs
    subst this
    exact ⟨by simp [sts], by simp [sts]⟩) (by simp) (by rw [HPO.out]; exact hlen)
  unfold LayPost at hcall
  rw [HPO.out] at hcall
  have HB2 := Lib.hid hbw2
  clear hadd hpg hpg2 hb2 hbw2 hbl HPO
  go_wp2_with fail
  refine hcall.mono ?_
  rintro e w3 ⟨rfl, ⟨v3, L3, hpg3, hst3⟩, hb3⟩
  have cq1 : w3.cell? ⟨w.heap.size, 1, none⟩ = some (.int .i64 0) := hpg3.blk.cell 1 rfl
  have fq1 := hpg3.blk.free 1
  have HPS := Lib.hid (hpg3.start a.1)
  have HS3 := Lib.hid hst3
  have HB3 := Lib.hid (HB2.out.trans hb3)
  clear hpg3 hst3 hb3 hcall
  go_wp2_with fail
  go_ret
  exact ⟨⟨rfl, v3, L3, HPS.out.1, HS3.out⟩, HB3.out.trans HPS.out.2⟩

end Go.Proofs.YthdkbbkkijdhfaaGreatDoor
