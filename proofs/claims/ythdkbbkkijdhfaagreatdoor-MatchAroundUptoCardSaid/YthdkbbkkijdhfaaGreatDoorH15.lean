/-
  Texts of this seat put together: W28.
-/
import Derived.Test.YthdkbbkkijdhfaaGreatDoorH14
import Derived.BigRegion
import Derived.Deep.RegionHeld

/-
  Nodes of the reference in memory; the walk of copied, given what it does for each kid. Condition: the node lies in memory.
-/
namespace Go.Proofs.YthdkbbkkijdhfaaGreatDoor
open Go.RowKit Go.Shelf Go.Maps

/-- A node of the reference lies at a block, and all blocks that belong to it are some. -/
inductive RnIn (w : World) (M : Nat → Prop) : Nat → Rx.Nd → Prop
  | empty {p : Nat} (hp : M p) (hb : Blk w p (ndCells 0 noHas 0 0 (.slice none 0 0)) 68) : RnIn w M p .empty
  | set {p : Nat} {h : Rx.Has} (hp : M p) (hb : Blk w p (setCells h) 68) : RnIn w M p (.set h)
  | beg {p : Nat} (hp : M p) (hb : Blk w p (ndCells 2 noHas 0 0 (.slice none 0 0)) 68) : RnIn w M p .beg
  | fin {p : Nat} (hp : M p) (hb : Blk w p (ndCells 3 noHas 0 0 (.slice none 0 0)) 68) : RnIn w M p .fin
  | cat {p k c : Nat} {l : List Rx.Nd} {ps : List Nat} (hp : M p) (hb : Blk w p (ndCells 4 noHas 0 0 (.slice (some ⟨k, 0, none⟩) l.length c)) 68)
      (h0 : 1 < l.length) (hc : l.length ≤ c ∧ l.length ≤ 1073741824) (hk : M k) (hl : ps.length = l.length) (hps : Ptrs w k ps) (hn : ∀ i, i < l.length → RnIn w M (ps.getD i 0) (l.getD i .empty)) : RnIn w M p (.cat l)
  | alt {p k c : Nat} {l : List Rx.Nd} {ps : List Nat} (hp : M p) (hb : Blk w p (ndCells 5 noHas 0 0 (.slice (some ⟨k, 0, none⟩) l.length c)) 68)
      (h0 : 1 < l.length) (hc : l.length ≤ c ∧ l.length ≤ 1073741824) (hk : M k) (hl : ps.length = l.length) (hps : Ptrs w k ps) (hn : ∀ i, i < l.length → RnIn w M (ps.getD i 0) (l.getD i .empty)) : RnIn w M p (.alt l)
  | rep {p k q m c : Nat} {most : Int} {n : Rx.Nd} (hp : M p) (hb : Blk w p (ndCells 6 noHas m most (.slice (some ⟨k, 0, none⟩) 1 c)) 68)
      (hk : M k) (hps : Ptrs w k [q]) (hn : RnIn w M q n) (hm : m ≤ 255 ∧ -1 ≤ most ∧ most ≤ 255) : RnIn w M p (.rep m most n)

/-- .. all behind a bound. -/
abbrev RnAt (w : World) (B : Nat) : Nat → Rx.Nd → Prop := RnIn w (fun b => B ≤ b)

theorem RnIn.kept {S M : Nat → Prop} {w w' : World} {p : Nat} {n : Rx.Nd} (h : RnIn w M p n) (hk : Kept S w w') (hS : ∀ k, M k → ¬ S k) : RnIn w' M p n := by
  induction h with
  | empty hp hb => exact .empty hp (hb.kept hk (hS _ hp))
  | set hp hb => exact .set hp (hb.kept hk (hS _ hp))
  | beg hp hb => exact .beg hp (hb.kept hk (hS _ hp))
  | fin hp hb => exact .fin hp (hb.kept hk (hS _ hp))
  | cat hp hb h0 hc hk' hl hps _ ih => exact .cat hp (hb.kept hk (hS _ hp)) h0 hc hk' hl (hps.kept hk (hS _ hk')) ih
  | alt hp hb h0 hc hk' hl hps _ ih => exact .alt hp (hb.kept hk (hS _ hp)) h0 hc hk' hl (hps.kept hk (hS _ hk')) ih
  | rep hp hb hk' hps _ hm ih => exact .rep hp (hb.kept hk (hS _ hp)) hk' (hps.kept hk (hS _ hk')) ih hm

theorem RnIn.mono {M M' : Nat → Prop} {w : World} {p : Nat} {n : Rx.Nd} (h : RnIn w M p n) (hB : ∀ k, M k → M' k) : RnIn w M' p n := by
  induction h with
  | empty hp hb => exact .empty (hB _ hp) hb
  | set hp hb => exact .set (hB _ hp) hb
  | beg hp hb => exact .beg (hB _ hp) hb
  | fin hp hb => exact .fin (hB _ hp) hb
  | cat hp hb h0 hc hk' hl hps _ ih => exact .cat (hB _ hp) hb h0 hc (hB _ hk') hl hps ih
  | alt hp hb h0 hc hk' hl hps _ ih => exact .alt (hB _ hp) hb h0 hc (hB _ hk') hl hps ih
  | rep hp hb hk' hps _ hm ih => exact .rep (hB _ hp) hb (hB _ hk') hps ih hm

/-- A node's own block is one of them. -/
theorem RnIn.at_ {M : Nat → Prop} {w : World} {p : Nat} {n : Rx.Nd} (h : RnIn w M p n) : M p := by
  cases h <;> assumption

/-- Its blocks are there. -/
theorem RnIn.lt {M : Nat → Prop} {w : World} {p : Nat} {n : Rx.Nd} (h : RnIn w M p n) : RnIn w (fun k => M k ∧ k < w.heap.size) p n := by
  induction h with
  | empty hp hb => exact .empty ⟨hp, hb.lt⟩ hb
  | set hp hb => exact .set ⟨hp, hb.lt⟩ hb
  | beg hp hb => exact .beg ⟨hp, hb.lt⟩ hb
  | fin hp hb => exact .fin ⟨hp, hb.lt⟩ hb
  | cat hp hb h0 hc hk' hl hps _ ih => exact .cat ⟨hp, hb.lt⟩ hb h0 hc ⟨hk', hps.lt (by omega)⟩ hl hps ih
  | alt hp hb h0 hc hk' hl hps _ ih => exact .alt ⟨hp, hb.lt⟩ hb h0 hc ⟨hk', hps.lt (by omega)⟩ hl hps ih
  | rep hp hb hk' hps _ hm ih => exact .rep ⟨hp, hb.lt⟩ hb ⟨hk', hps.lt (by simp)⟩ hps ih hm


/-- A slice of nodes in memory, that is the call's own, and the nodes behind it, which lie elsewhere. -/
structure RnsAt (w : World) (B : Nat) (v : Value) (l : List Rx.Nd) (ps : List Nat) : Prop where
  len : ps.length = l.length
  none_ : l = [] → v = .slice none 0 0
  own : w.ownsRow B 24 1 v ps.length (ps.map ptrV)
  nd : ∀ i, i < l.length → RnIn w (fun b => B ≤ b ∧ v.ownBlock ≠ some b) (ps.getD i 0) (l.getD i .empty)

theorem RnsAt.nil (w : World) (B : Nat) : RnsAt w B (.slice none 0 0) [] [] := ⟨rfl, fun _ => rfl, World.ownsRow_nil _ _ _ _, fun i hi => absurd hi (Nat.not_lt_zero i)⟩

theorem RnsAt.kept {S : Nat → Prop} {w w' : World} {B : Nat} {v : Value} {l : List Rx.Nd} {ps : List Nat} (h : RnsAt w B v l ps) (hk : Kept S w w') (hS : ∀ k, B ≤ k → ¬ S k) : RnsAt w' B v l ps := by
  refine ⟨h.len, h.none_, ?_, fun i hi => (h.nd i hi).kept hk fun k hk => hS k hk.1⟩
  obtain ⟨h1, h2 | ⟨g, cap, cur, e, hg, hb, r⟩⟩ := h.own
  · exact ⟨h1, .inl h2⟩
  · exact ⟨h1, .inr ⟨g, cap, cur, e, hg, (hk.block g (lt_of_block hb) (hS g hg)).trans hb, r⟩⟩

theorem RnsAt.ex {w : World} {B : Nat} {v : Value} {l : List Rx.Nd} {ps : List Nat} (h : RnsAt w B v l ps) : (l = [] ∧ v = .slice none 0 0) ∨ ∃ (k c : Nat), v = .slice (some ⟨k, 0, none⟩) l.length c ∧ l.length ≤ c ∧ 0 < l.length ∧ B ≤ k ∧ Ptrs w k ps ∧ ∀ i, i < l.length → RnAt w B (ps.getD i 0) (l.getD i .empty) := by
  have hl := h.len
  cases l with
  | nil => exact .inl ⟨rfl, h.none_ rfl⟩
  | cons x t =>
    right
    have ho := h.own
    rcases ho.2 with ⟨-, h2⟩ | ⟨g, cap, cur, e, hg, hb, hc, hm, hs, ht⟩
    · rw [hl] at h2; simp at h2
    · refine ⟨g, cap, by rw [e, hl], by omega, by simp, hg, ?_, fun i hi => (h.nd i hi).mono fun k hk => hk.1⟩
      intro i hi
      have := ho.cells (g := g) (by rw [e]; rfl) i (ptrV (ps.getD i 0)) (by simp [List.getD_eq_getElem?_getD, List.getElem?_eq_getElem hi])
      rw [show ((⟨g, 0, none⟩ : Addr).add i) = ⟨g, i, none⟩ by simp only [Addr.add]; split <;> simp_all] at this
      exact this

theorem RnsAt.push {w w1 : World} {B q : Nat} {v v' : Value} {l : List Rx.Nd} {n : Rx.Nd} {ps : List Nat} {o : Obj} (h : RnsAt w B v l ps) (hn : RnIn w (fun b => B ≤ b ∧ v.ownBlock ≠ some b) q n)
    (hown : w1.ownsRow B 24 1 v' (ps.length + 1) (ps.map ptrV ++ [ptrV q])) (hg : (w.alloc o).grownBy w1 v.ownBlock) (hv : v'.ownBlock = v.ownBlock ∨ v'.ownBlock = some (w.alloc o).heap.size) : RnsAt w1 B v' (l ++ [n]) (ps ++ [q]) := by
  have hl := h.len
  have hk : Kept (fun b => v.ownBlock = some b) (w.alloc o) w1 := ⟨hg.os, hg.tape, hg.output, hg.size, fun k hk hs => hg.block k hk (fun e => hs e.symm)⟩
  have hk0 : Kept (fun _ => False) w (w.alloc o) := (Kept.refl _ _).alloc _
  have mv : ∀ {p : Nat} {x : Rx.Nd}, RnIn w (fun b => B ≤ b ∧ v.ownBlock ≠ some b) p x → RnIn w1 (fun b => B ≤ b ∧ v'.ownBlock ≠ some b) p x := by
    intro p x hx
    refine ((hx.lt.kept hk0 fun _ _ h => h).kept hk fun k hk hs => hk.1.2 hs).mono fun k hk => ⟨hk.1.1, fun e => ?_⟩
    rcases hv with hv | hv
    · exact hk.1.2 (hv ▸ e)
    · rw [hv] at e
      have := Option.some.inj e
      have h2 : (w.alloc o).heap.size = w.heap.size + 1 := by simp
      have := hk.2
      omega
  refine ⟨by simp [hl], fun e => by simp at e, by simpa using hown, fun i hi => ?_⟩
  rcases Nat.lt_or_ge i l.length with h1 | h1
  · have e1 : (ps ++ [q]).getD i 0 = ps.getD i 0 := by simp [List.getD_eq_getElem?_getD, List.getElem?_append_left (show i < ps.length by omega)]
    have e2 : (l ++ [n]).getD i .empty = l.getD i .empty := by simp [List.getD_eq_getElem?_getD, List.getElem?_append_left h1]
    rw [e1, e2]
    exact mv (h.nd i h1)
  · simp at hi
    obtain rfl : i = l.length := by omega
    have e1 : (ps ++ [q]).getD l.length 0 = q := by rw [← hl]; simp [List.getD_eq_getElem?_getD]
    have e2 : (l ++ [n]).getD l.length .empty = n := by simp [List.getD_eq_getElem?_getD]
    rw [e1, e2]
    exact mv hn

theorem build_ref (kind mn mx : Int) (h : Rx.Has) (w : World) : (Instr.build 68 #[(0, .int .i64 kind), (1, .agg (hasCells h).toArray), (2, .int .i64 mn), (3, .int .i64 mx)]).run Tryz.prog w = .ok (.agg (ndCells kind h mn mx (.slice none 0 0))) w := by
  kernel_rfl

theorem info_ref : (Tryz.prog.info? 24).map (fun i => (i.zero, i.size, i.bytes)) = some (some (.pointer none), 1, 8) := by kernel_rfl

theorem nd_setKids (kind mn mx : Int) (h : Rx.Has) (v v' : Value) : (ndCells kind h mn mx v).setIfInBounds 259 v' = ndCells kind h mn mx v' := by
  have hl := hasCells_len h
  unfold ndCells
  apply Array.ext'
  simp only [Array.toList_setIfInBounds]
  rw [List.cons_append, List.set_cons_succ, List.set_append_right _ _ (by omega), hl]
  rfl

theorem Blk.grown {w w1 : World} {o : Obj} {v : Value} {b : Nat} {cs : Array Value} {t : TypeId} (h : Blk w b cs t) (hg : (w.alloc o).grownBy w1 v.ownBlock) (hv : v.ownBlock ≠ some b) : Blk w1 b cs t :=
  (hg.block b (h.alloc o).lt fun e => hv e.symm).trans (h.alloc o)

theorem own_form {w : World} {base : Nat} {e : TypeId} {size : Nat} {v : Value} {n : Nat} {xs : List Value} (h : w.ownsRow base e size v n xs) (hn : 0 < n) : ∃ g c, v = .slice (some ⟨g, 0, none⟩) n c := by
  rcases h.2 with ⟨h1, h2⟩ | ⟨g, cap, cur, e, -⟩
  · omega
  · exact ⟨g, cap, e⟩

/-- copied's contract. -/
def CopiedC (n : Rx.Nd) (p : Nat) (depth : Int) (w : World) : Prop :=
  Calls Tryz.prog 18 #[.pointer (some ⟨p, 0, none⟩), .int .i64 depth] w fun e w' => (∃ q, e = .returned (.tuple #[.pointer (some ⟨q, 0, none⟩), .bool true]) ∧ RnAt w' w.heap.size q n) ∧ Below w.heap.size w w'

attribute [-go_sem] Go.Instr.build
set_option maxHeartbeats 6400000 in
set_option maxRecDepth 100000 in
theorem copied_core (w : World) (p k : Nat) (depth : Int) (cap : Nat) (a : Option Addr) (kind mn mx : Int) (h : Rx.Has) (l : List Rx.Nd) (ps : List Nat) (hd : 0 ≤ depth ∧ depth ≤ 20000)
    (hb : Blk w p (ndCells kind h mn mx (.slice a l.length cap)) 87)
    (ha : 0 < l.length → a = some ⟨k, 0, none⟩) (hl : l.length ≤ 1073741824) (hps : Ptrs w k ps) (hpl : ps.length = l.length)
    (hk : 0 ≤ kind ∧ kind ≤ 6 ∧ (kind = 6 → l.length = 1))
    (hc : ∀ i, i < l.length → ∀ w', Below w.heap.size w w' → CopiedC (l.getD i .empty) (ps.getD i 0) (depth + 1) w') :
    Calls Tryz.prog 18 #[.pointer (some ⟨p, 0, none⟩), .int .i64 depth] w fun e w' => (e = .returned (.tuple #[.pointer (some ⟨w.heap.size, 0, none⟩), .bool true]) ∧ ∃ v qs, Blk w' w.heap.size (ndCells kind h mn mx v) 68 ∧ RnsAt w' (w.heap.size + 1) v l qs) ∧ Below w.heap.size w w' := by
  have c0 := hb.cell 0 (nd_kind _ _ _ _ _)
  have c1 := hb.cell 257 (nd_min _ _ _ _ _)
  have c2 := hb.cell 258 (nd_max _ _ _ _ _)
  have c3 := hb.cell 259 (nd_kids _ _ _ _ _)
  have hplt := hb.lt
  have hrg : w.rangeAt p 1 (hasCells h) := by
    intro j v hv
    have hj : j < 256 := by
      have := (List.getElem?_eq_some_iff.1 hv).1
      rw [hasCells_len] at this; exact this
    have h1 := hb.cell (1 + j) (nd_has kind h mn mx (.slice a l.length cap) j hj)
    have h2 : v = .bool (h (UInt8.ofNat j)) := by
      simp [hasCells, List.getElem?_range hj] at hv
      exact hv.symm
    rw [h2]; exact h1
  have hone : ∀ v ∈ hasCells h, v.oneCell' = true := by
    intro v hv
    simp only [hasCells, List.mem_map] at hv
    obtain ⟨i, -, rfl⟩ := hv
    rfl
  have hlen := hasCells_len h
  have hinf : (Tryz.prog.info? 31).map (·.size) = some (hasCells h).length := by rw [hlen]; kernel_rfl
  have hund := Tryz.underlying31
  obtain ⟨cs, hcs⟩ : ∃ cs, cs = hasCells h := ⟨_, rfl⟩
  have hbd := fun w => build_ref kind mn mx h w
  rw [← hcs] at hrg hone hlen hinf hbd
  have HNC := Lib.hid (fun v => nd_setKids kind mn mx h (.slice none 0 0) v)
  have HB0 : Hid (∀ w : World, Blk (w.alloc (.cells (ndCells kind h mn mx (.slice none 0 0)) 68)) w.heap.size (ndCells kind h mn mx (.slice none 0 0)) 68) := fun w => Blk.new w _ _
  obtain ⟨NC, hNC⟩ : ∃ NC : Value → Array Value, NC = fun v => ndCells kind h mn mx v := ⟨_, rfl⟩
  have e0 : ∀ v, ndCells kind h mn mx v = NC v := fun v => by rw [hNC]
  have HNK : Hid (∀ v, (NC v)[259]? = some v) := fun v => by rw [← e0]; exact nd_kids _ _ _ _ _
  have HNW : Hid (∀ v v', (NC v).setIfInBounds 259 v' = NC v') := fun v v' => by rw [← e0, ← e0]; exact nd_setKids _ _ _ _ _ _
  simp only [e0] at hbd HB0 ⊢
  clear hcs e0 hNC HNC
  obtain ⟨i0, hi, hz0, hz1, hz2⟩ := info_parts info_ref
  have HPS := Lib.hid hps
  have HC := Lib.hid hc
  have HA := Lib.hid ha
  have HK := Lib.hid hk
  clear hps hc hb ha hk
  go_enter Tryz.func18, Tryz.ntmps18
  go_wp2_with fail
  go_region_held (fun w' => w'.cell? ⟨p, 0, none⟩ = some (.int .i64 kind) ∧ w'.cell? ⟨p, 257, none⟩ = some (.int .i64 mn) ∧ w'.cell? ⟨p, 258, none⟩ = some (.int .i64 mx) ∧ w'.rangeAt p 1 cs) ((first | (go_keep_ranges; done) | (go_split_ands; simp only [World.rangeAt_drew, World.cell?_drew] at *; refine ⟨?_, ?_, ?_, World.rangeAt_alloc (by assumption) _⟩ <;> simp [*, World.cell?_alloc_some]))) (fail)
  go_wp2_with fail
  have I : Blk (w.alloc (.cells (NC (.slice none 0 0)) 68)).drew w.heap.size (NC (.slice none 0 0)) 68 ∧ RnsAt (w.alloc (.cells (NC (.slice none 0 0)) 68)).drew (w.heap.size + 1) (.slice none 0 0) (l.take 0) [] ∧ Below w.heap.size w (w.alloc (.cells (NC (.slice none 0 0)) 68)).drew :=
    ⟨HB0.out w, RnsAt.nil _ _, ((Kept.refl (fun _ => False) w).alloc _).drew.below⟩
  go_loopw [7] (fun x7 wr => ∃ (i : Nat) (v : Value) (qs : List Nat), i ≤ l.length ∧ x7 = .int .i64 i ∧ Blk wr w.heap.size (NC v) 68 ∧ RnsAt wr (w.heap.size + 1) v (l.take i) qs ∧ Below w.heap.size w wr) (fun x7 _ => l.length - (intOf x7).toNat)
  case atStart => exact ⟨0, _, [], Nat.zero_le _, rfl, I⟩
  case round =>
    clear I
    obtain ⟨i, v, qs, hi', rfl, hbo, hns, hbw⟩ := hrel
    have c0' : wr.cell? ⟨p, 0, none⟩ = some (.int .i64 kind) := by rw [hbw.cell (p := ⟨p, 0, none⟩) hplt]; exact c0
    have c3' : wr.cell? ⟨p, 259, none⟩ = some (.slice a l.length cap) := by rw [hbw.cell (p := ⟨p, 259, none⟩) hplt]; exact c3
    have HBO := Lib.hid hbo
    have HNS := Lib.hid hns
    have HBW := Lib.hid hbw
    clear hbo hns hbw c0 c1 c2 c3
    by_cases hlt : i < l.length
    · obtain rfl := HA.out (by omega)
      have cq : wr.cell? ⟨k, i, none⟩ = some (.pointer (some ⟨ps.getD i 0, 0, none⟩)) := by
        have := HPS.out i (by omega)
        rw [HBW.out.cell (p := ⟨k, i, none⟩) (World.block_lt_of_cell? _ _ this)]
        exact this
      have hcall := HC.out i hlt wr HBW.out
      unfold CopiedC at hcall
      have HTK : Hid (l.take (i + 1) = l.take i ++ [l.getD i .empty]) := by
        show _ = _
        rw [List.take_succ_eq_append_getElem hlt]
        simp [List.getD_eq_getElem?_getD, List.getElem?_eq_getElem hlt]
      generalize l.getD i .empty = n at *
      generalize ps.getD i 0 = pi at *
      go_wp2_with fail
      refine hcall.mono ?_
      rintro e w3 ⟨⟨q, rfl, hn⟩, hb3⟩
      have hszr := HBW.out.size
      have hsz3 := hb3.size
      have hbl := HBO.out.lt
      have hb3o := HBO.out.keep hb3 HBO.out.lt
      have hrn : RnIn w3 (fun b => w.heap.size + 1 ≤ b ∧ v.ownBlock ≠ some b) q n := hn.mono fun k hk => ⟨by omega, fun e => by
        have := (HNS.out.own.lt k e).2
        omega⟩
      have hns3 := HNS.out.kept (Kept.of_below (S := fun _ => False) hb3) (fun _ _ h => h)
      have hown := hns3.own
      have hpl3 := hns3.len
      have ck := hb3o.cell 259 (HNK.out v)
      have fk := hb3o.free 259
      have c3'' : w3.cell? ⟨p, 259, none⟩ = some (.slice (some ⟨k, 0, none⟩) l.length cap) := by rw [hb3.cell (p := ⟨p, 259, none⟩) (by show p < _; omega)]; exact c3'
      have HB3 := Lib.hid hb3
      have HB3O := Lib.hid hb3o
      have HRN := Lib.hid hrn
      have HNS3 := Lib.hid hns3
      have hqs : qs.length = i := by rw [hpl3, List.length_take]; omega
      have hob : ∀ b, v.ownBlock = some b → w.heap.size + 1 ≤ b := fun b e => (hown.lt b e).1
      have HOB := Lib.hid hob
      clear hb3 hb3o hrn hns3 hcall cq hn hob
      go_wp2_with (at_builtin; refine wpList_append_own_at _ rfl _ _ 66 rfl (w.heap.size + 1) 24 i0 (.pointer none) 1 8 Tryz.underlying66 hi hz0 hz1 hz2 rfl (by decide) _ _ _ rfl (hown.alloc _) ⟨w3.heap.size, 0, none⟩ 1 1 [ptrV q] rfl rfl (cell_one_new _ _ _) (by simp [ptrV, Value.oneCell']) (by unfold maxLen; omega) (by omega) (by simp; omega) ?_; intro v' w5 hown' hgrow _ hv'; rw [hqs] at hown'; obtain ⟨g5, n5, rfl⟩ := own_form hown' (Nat.succ_pos _); have hgrow : (w3.alloc (.cells #[ptrV q] 24)).grownBy w5 v.ownBlock := hgrow; have HB5 : Hid (Blk w5 w.heap.size (NC v) 68) := HB3O.out.grown hgrow (fun e => absurd (HOB.out _ e) (by omega)); have c5 := HB5.out.cell 259 (HNK.out v); have f5 := HB5.out.free 259; have HG5 := Lib.hid hgrow; have HO5 := Lib.hid hown'; have HV5 := Lib.hid hv'; clear hgrow hown' hv')
      let v' : Value := .slice (some ⟨g5, 0, none⟩) (i + 1) n5
      have hv' : v'.ownBlock = v.ownBlock ∨ v'.ownBlock = some (w3.alloc (.cells #[ptrV q] 24)).heap.size := HV5.out
      have hbel5 : Below w.heap.size w w5 := ((Kept.of_below (S := fun _ => False) (HBW.out.trans (HB3.out.mono hszr))).pushed HG5.out fun b e => by have := HOB.out b e; omega).below
      refine ⟨⟨i + 1, v', qs ++ [q], by omega, by go_num, ?_, ?_, ?_⟩, ?_⟩
      · have := HB5.out.set 259 v'
        rwa [HNW.out] at this
      · rw [HTK.out]
        refine (HNS3.out.push HRN.out (by rw [hqs]; exact HO5.out) HG5.out hv').kept ((Kept.refl (· = w.heap.size) w5).setCell (.inl rfl) 259 v') fun b hb => ?_
        omega
      · exact ((Kept.of_below (S := fun _ => False) hbel5).setCell (.inr (Nat.le_refl _)) 259 v').below
      · show l.length - ((i : Int) + 1).toNat < l.length - (i : Int).toNat
        omega
    · obtain rfl : i = l.length := by omega
      rw [List.take_of_length_le (by omega)] at HNS
      by_cases h6 : kind = 6
      · have h1 : (l.length : Int) = 1 := by have := HK.out.2.2 h6; omega
        subst h6
        go_wp2_with fail
        go_region
        go_wp2_with fail
        go_ret2
        exact ⟨⟨rfl, v, qs, HBO.out.drew, HNS.out.kept ((Kept.refl (fun _ => False) _).drew) (fun _ _ h => h)⟩, ((Kept.of_below (S := fun _ => False) HBW.out).drew).below⟩
      · obtain ⟨g1, g2, g3⟩ := HK.out
        have g6 : (kind == 6) = false := by simpa using h6
        have g6n : (kind != 6) = true := by simpa using h6
        have d1 : decide (0 ≤ kind) = true := decide_eq_true g1
        have d2 : decide (kind ≤ 6) = true := decide_eq_true g2
        clear g3 h6
        go_wp2_with fail
        go_region
        go_wp2_with fail
        go_ret2
        exact ⟨⟨rfl, v, qs, HBO.out.drew, HNS.out.kept ((Kept.refl (fun _ => False) _).drew) (fun _ _ h => h)⟩, ((Kept.of_below (S := fun _ => False) HBW.out).drew).below⟩

theorem sizes_ge (l : List Rx.Nd) : ∀ a, a ≤ 20000 → a ≤ Rx.sizes l a := by
  induction l with
  | nil => intro a _; exact Nat.le_refl _
  | cons x r ih => intro a h; simp only [Rx.sizes]; have := ih (min 20000 (a + x.size)) (by omega); omega
theorem sizes_kid (l : List Rx.Nd) : ∀ a i, i < l.length → (l.getD i .empty).size ≤ Rx.sizes l a := by
  induction l with
  | nil => intro a i h; simp at h
  | cons x r ih =>
    intro a i h
    simp only [Rx.sizes]
    cases i with
    | zero =>
      have h1 := sizes_ge r (min 20000 (a + x.size)) (by omega)
      have h2 := size_le x
      simp only [List.getD_cons_zero]
      omega
    | succ i => simp only [List.getD_cons_succ]; exact ih _ i (by simpa using h)

/-- A node of a list, in memory. -/
theorem RnsAt.made {w : World} {B : Nat} {kind : Int} {mk : List Rx.Nd → Rx.Nd} {v : Value} {l : List Rx.Nd} {qs : List Nat} (hk : Kind2 kind mk) (hb : Blk w B (ndCells kind noHas 0 0 v) 68) (h : RnsAt w (B + 1) v l qs) (h0 : 1 < l.length) (hl : l.length ≤ 1073741824) : RnAt w B B (mk l) := by
  rcases h.ex with ⟨rfl, -⟩ | ⟨k, c, rfl, hc, -, hBk, hps, hn⟩
  · simp at h0
  · have hn2 : ∀ i, i < l.length → RnAt w B (qs.getD i 0) (l.getD i .empty) := fun i hi => (hn i hi).mono fun b hb => by omega
    cases hk with
    | cat => exact .cat (Nat.le_refl _) hb h0 ⟨hc, hl⟩ (show B ≤ k by omega) h.len hps hn2
    | alt => exact .alt (Nat.le_refl _) hb h0 ⟨hc, hl⟩ (show B ≤ k by omega) h.len hps hn2

theorem copied_any {M : Nat → Prop} {w : World} {p : Nat} {n : Rx.Nd} (h : NdIn w M p n) : ∀ depth : Int, 0 ≤ depth → depth + n.size ≤ 20000 → n.size < 20000 → ∀ w', Below w.heap.size w w' → CopiedC n p depth w' := by
  have lone : ∀ (p : Nat) (n : Rx.Nd) (kind : Int) (hh : Rx.Has) (depth : Int) (w' : World), 0 ≤ kind ∧ kind < 6 → 0 ≤ depth ∧ depth ≤ 20000 → Blk w' p (ndCells kind hh 0 0 (.slice none 0 0)) 87 →
      (∀ w2 : World, Blk w2 w'.heap.size (ndCells kind hh 0 0 (.slice none 0 0)) 68 → RnAt w2 w'.heap.size w'.heap.size n) → CopiedC n p depth w' := by
    intro p n kind hh depth w' hk hd hb hn
    have := copied_core w' p 0 depth 0 none kind 0 0 hh [] [] hd hb (fun h => absurd h (by decide)) (by decide) (fun i hi => absurd hi (Nat.not_lt_zero i)) rfl ⟨hk.1, by omega, fun e => by omega⟩ (fun i hi => absurd hi (Nat.not_lt_zero i))
    refine this.mono ?_
    rintro e w2 ⟨⟨rfl, v, qs, hb2, hn2⟩, hbl⟩
    obtain rfl := hn2.none_ rfl
    exact ⟨⟨_, rfl, hn w2 hb2⟩, hbl⟩
  have listed : ∀ (p k c : Nat) (kind : Int) (mk : List Rx.Nd → Rx.Nd) (l : List Rx.Nd) (ps : List Nat) (depth : Int) (w' : World), Kind2 kind mk → 0 ≤ depth ∧ depth ≤ 20000 → Blk w' p (ndCells kind noHas 0 0 (.slice (some ⟨k, 0, none⟩) l.length c)) 87 → 1 < l.length → l.length ≤ c ∧ l.length ≤ 1073741824 → ps.length = l.length → Ptrs w' k ps →
      (∀ i, i < l.length → ∀ w2, Below w'.heap.size w' w2 → CopiedC (l.getD i .empty) (ps.getD i 0) (depth + 1) w2) → CopiedC (mk l) p depth w' := by
    intro p k c kind mk l ps depth w' hk hd hb h0 hc hpl hps hn
    have hkk : 0 ≤ kind ∧ kind < 6 := by cases hk <;> decide
    have := copied_core w' p k depth c _ kind 0 0 noHas l ps hd hb (fun _ => rfl) hc.2 hps hpl ⟨hkk.1, by omega, fun e => by omega⟩ hn
    refine this.mono ?_
    rintro e w2 ⟨⟨rfl, v, qs, hb2, hn2⟩, hbl⟩
    exact ⟨⟨_, rfl, hn2.made hk hb2 h0 hc.2⟩, hbl⟩
  induction h with
  | empty hp hb => intro depth h1 h2 h3 w' hw; exact lone _ _ 0 noHas depth w' (by decide) (by omega) (hb.keep hw hb.lt) fun w2 h => .empty (Nat.le_refl _) h
  | set hp hb => intro depth h1 h2 h3 w' hw; exact lone _ _ 1 _ depth w' (by decide) (by omega) (hb.keep hw hb.lt) fun w2 h => .set (Nat.le_refl _) h
  | beg hp hb => intro depth h1 h2 h3 w' hw; exact lone _ _ 2 noHas depth w' (by decide) (by omega) (hb.keep hw hb.lt) fun w2 h => .beg (Nat.le_refl _) h
  | fin hp hb => intro depth h1 h2 h3 w' hw; exact lone _ _ 3 noHas depth w' (by decide) (by omega) (hb.keep hw hb.lt) fun w2 h => .fin (Nat.le_refl _) h
  | cat hp hb h0 hc hk' hl hps _ ih =>
    rename_i p k c l ps _
    intro depth h1 h2 h3 w' hw
    have hsz : (Rx.Nd.cat l).size = min 20000 (Rx.sizes l 0 + 1) := by simp only [Rx.Nd.size]
    refine listed _ _ _ 4 .cat l ps depth w' .cat (by omega) (hb.keep hw hb.lt) h0 hc hl (hps.kept (Kept.of_below (S := fun _ => False) hw) id) fun i hi w2 hw2 => ?_
    have hkid := sizes_kid l 0 i hi
    exact ih i hi (depth + 1) (by omega) (by omega) (by omega) w2 (hw.trans (hw2.mono hw.size))
  | alt hp hb h0 hc hk' hl hps _ ih =>
    rename_i p k c l ps _
    intro depth h1 h2 h3 w' hw
    have hsz : (Rx.Nd.alt l).size = min 20000 (Rx.sizes l 0 + 1) := by simp only [Rx.Nd.size]
    refine listed _ _ _ 5 .alt l ps depth w' .alt (by omega) (hb.keep hw hb.lt) h0 hc hl (hps.kept (Kept.of_below (S := fun _ => False) hw) id) fun i hi w2 hw2 => ?_
    have hkid := sizes_kid l 0 i hi
    exact ih i hi (depth + 1) (by omega) (by omega) (by omega) w2 (hw.trans (hw2.mono hw.size))
  | rep hp hb hk' hps _ hm ih =>
    rename_i p k q m most n _
    intro depth h1 h2 h3 w' hw
    have hlt : n.size < (Rx.Nd.rep m most n).size := by
      simp only [Rx.Nd.size] at h3 ⊢
      have hmul : n.size ≤ n.size * max 1 (if most < 0 then m else most.toNat) := Nat.le_mul_of_pos_right _ (by omega)
      rw [Nat.min_eq_right (size_le n)] at h3 ⊢
      omega
    have := copied_core w' p k depth 1 _ 6 m most noHas [n] [q] (by omega) (hb.keep hw hb.lt) (fun _ => rfl) (by simp) (hps.kept (Kept.of_below (S := fun _ => False) hw) id) rfl ⟨by decide, by decide, fun _ => rfl⟩ (fun i hi w2 hw2 => by
      have h0 : i = 0 := Nat.lt_one_iff.1 hi
      subst h0
      exact ih (depth + 1) (by omega) (by omega) (by omega) w2 (hw.trans (hw2.mono hw.size)))
    refine this.mono ?_
    rintro e w2 ⟨⟨rfl, v, qs, hb2, hn2⟩, hbl⟩
    refine ⟨⟨_, rfl, ?_⟩, hbl⟩
    have hql := hn2.len
    obtain ⟨x, rfl⟩ : ∃ x, qs = [x] := by
      rcases qs with _ | ⟨x, _ | ⟨y, u⟩⟩
      · simp at hql
      · exact ⟨x, rfl⟩
      · simp at hql
    rcases hn2.ex with ⟨h0, -⟩ | ⟨k2, c, rfl, hc, -, hBk, hps2, hn3⟩
    · simp at h0
    · exact .rep (Nat.le_refl _) hb2 (show w'.heap.size ≤ k2 by omega) hps2 ((hn3 0 (by simp)).mono fun b hb => by omega) hm

end Go.Proofs.YthdkbbkkijdhfaaGreatDoor
