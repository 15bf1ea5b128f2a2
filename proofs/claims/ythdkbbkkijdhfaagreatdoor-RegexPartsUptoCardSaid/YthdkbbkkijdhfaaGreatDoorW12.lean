/-
  The walks of escaped, join. Condition: what is told lies in memory.
-/
import Derived.Test.YthdkbbkkijdhfaaGreatDoorW11
namespace Go.Proofs.YthdkbbkkijdhfaaGreatDoor
open Go.RowKit Go.Shelf Go.Maps

theorem idx_contains (l : List UInt8) (c : UInt8) : (0 ≤ Lib.indexByte l c) ↔ l.contains c = true := by
  induction l with
  | nil => simp [Lib.indexByte]
  | cons b r ih =>
    have hge := Lib.indexByte_ge r c
    unfold Lib.indexByte
    by_cases h : b = c
    · subst h; simp
    · have h1 : (b == c) = false := by simp [h]
      have h2 : (c == b) = false := by simp; exact fun e => h e.symm
      simp only [List.contains_cons, h1, h2, Bool.false_or]
      rw [← ih]
      simp only [Bool.false_eq_true, if_false]
      split
      · rename_i h3
        have : Lib.indexByte r c = -1 := by simpa using h3
        omega
      · rename_i h3
        have : Lib.indexByte r c ≠ -1 := by simpa using h3
        omega

theorem NodePost.one {w0 w w' : World} {B r : Nat} {s : Rx.Bytes} {ext fold : Bool} {c : UInt8} (G : Go1 w0 w r s ext fold) (hB : B ≤ w.heap.size)
    (hb : Blk w' w.heap.size (ndCells 1 (Rx.folds fold fun d => d == c) 0 0 (.slice none 0 0)) 87) (hbl : Below w.heap.size w w') :
    NodePost B r ext fold (some (Rx.one fold c, s)) (.returned (.pointer (some ⟨w.heap.size, 0, none⟩))) w' ∧ Kept (· = r) w0 w' :=
  ⟨⟨w.heap.size, rfl, G.rd.at_.keep hbl G.rd.lt, .set hB hb⟩, G.kept.trans (Kept.of_below hbl)⟩

theorem indexByte_any (s : Rx.Bytes) (c : UInt8) (w : World) : Calls Tryz.prog 104 #[.string ⟨s.toArray⟩, .int .u8 c.toNat] w fun e w' => e = .returned (.int .i64 (Lib.indexByte s c)) ∧ w' = w := by
  refine (Any.strings_IndexByte Tryz.lays137 ⟨s.toArray⟩ c.toNat w).mono ?_
  rintro e w' ⟨rfl, rfl⟩
  refine ⟨?_, rfl⟩
  have e : ((c.toNat : Int).toNat.toUInt8) = c := by
    apply UInt8.toNat_inj.1
    simp
  rw [e]

set_option maxHeartbeats 1600000 in
set_option maxRecDepth 100000 in
theorem escaped_any (r : Nat) (no s : Rx.Bytes) (ext fold : Bool) (w : World) (hr : Rd w r s ext fold) :
    Calls Tryz.prog 89 #[.pointer (some ⟨r, 0, none⟩), .string ⟨no.toArray⟩] w fun e w' => NodePost w.heap.size r ext fold (Rx.escaped fold no s) e w' ∧ Kept (· = r) w w' := by
  have HP : Hid (∀ x, Rx.escaped fold no s = x → ∀ e w', NodePost w.heap.size r ext fold x e w' → NodePost w.heap.size r ext fold (Rx.escaped fold no s) e w') := by
    rintro x rfl e w' h; exact h
  generalize hpost : NodePost w.heap.size r ext fold (Rx.escaped fold no s) = POST at HP ⊢
  clear hpost
  have G : Go1 w w r s ext fold := ⟨hr, Kept.refl _ _⟩
  have hx := G.next
  cases s with
  | nil =>
    have HX : Hid (Rx.escaped fold no [] = none) := by show _ = _; rfl
    clear hr
    go_enter Tryz.func89, Tryz.ntmps89
    go_wp2_with fail
    refine hx.mono ?_
    rintro e w' ⟨rfl, hk⟩
    go_wp2_with fail
    exact ⟨rfl, HP.out _ HX.out _ _ rfl, hk⟩
  | cons c t =>
    have ha := fun w => alnum_any c w
    have hi := fun w => indexByte_any no c w
    clear hr
    by_cases h1 : Rx.alnum c = true
    · have HX : Hid (Rx.escaped fold no (c :: t) = none) := by show _ = _; unfold Rx.escaped; simp only [h1]; rfl
      rw [h1] at ha
      clear h1
      go_enter Tryz.func89, Tryz.ntmps89
      go_wp2_with fail
      refine hx.mono ?_
      rintro e w' ⟨rfl, G1⟩
      go_wp2_with fail
      refine (ha _).mono ?_
      rintro e w2 ⟨rfl, rfl⟩
      go_wp2_with fail
      refine (fail_any _).mono ?_
      rintro e w2 ⟨rfl, rfl⟩
      go_wp2_with fail
      exact ⟨rfl, HP.out _ HX.out _ _ rfl, G1.kept⟩
    · have h1 : Rx.alnum c = false := by simpa using h1
      rw [h1] at ha
      by_cases h2 : (0 : Int) ≤ Lib.indexByte no c
      · have HX : Hid (Rx.escaped fold no (c :: t) = none) := by show _ = _; simp only [Rx.escaped]; rw [(idx_contains no c).1 h2]; simp
        clear h1
        go_enter Tryz.func89, Tryz.ntmps89
        go_wp2_with fail
        refine hx.mono ?_
        rintro e w' ⟨rfl, G1⟩
        go_wp2_with fail
        refine (ha _).mono ?_
        rintro e w2 ⟨rfl, rfl⟩
        go_wp2_with fail
        refine (hi _).mono ?_
        rintro e w2 ⟨rfl, rfl⟩
        go_wp2_with fail
        refine (fail_any _).mono ?_
        rintro e w3 ⟨rfl, rfl⟩
        go_wp2_with fail
        exact ⟨rfl, HP.out _ HX.out _ _ rfl, G1.kept⟩
      · have HX : Hid (Rx.escaped fold no (c :: t) = some (Rx.one fold c, t)) := by
          show _ = _; simp only [Rx.escaped]
          have : no.contains c = false := by simpa using fun h => h2 ((idx_contains no c).2 (by simpa using h))
          rw [this, h1]; rfl
        clear h1
        go_enter Tryz.func89, Tryz.ntmps89
        go_wp2_with fail
        refine hx.mono ?_
        rintro e w' ⟨rfl, G1⟩
        go_wp2_with fail
        refine (ha _).mono ?_
        rintro e w2 ⟨rfl, rfl⟩
        go_wp2_with fail
        refine (hi _).mono ?_
        rintro e w2 ⟨rfl, rfl⟩
        go_wp2_with fail
        refine (one_any r c t ext fold _ G1.rd.at_).mono ?_
        rintro e w3 ⟨rfl, hb, hbl⟩
        go_wp2_with fail
        go_ret
        have := NodePost.one (B := w.heap.size) G1 G1.kept.size hb hbl
        exact ⟨HP.out _ HX.out _ _ this.1, this.2⟩

/-- A pointer to a node. -/
def ptrV (p : Nat) : Value := .pointer (some ⟨p, 0, none⟩)

/-- A slice of nodes in memory, that is the call's own, and the nodes behind it, which lie elsewhere. -/
structure NdsAt (w : World) (B : Nat) (v : Value) (l : List Rx.Nd) (ps : List Nat) : Prop where
  len : ps.length = l.length
  none_ : l = [] → v = .slice none 0 0
  own : w.ownsRow B 45 1 v ps.length (ps.map ptrV)
  nd : ∀ i, i < l.length → NdIn w (fun b => B ≤ b ∧ v.ownBlock ≠ some b) (ps.getD i 0) (l.getD i .empty)

theorem NdsAt.nil (w : World) (B : Nat) : NdsAt w B (.slice none 0 0) [] [] := ⟨rfl, fun _ => rfl, World.ownsRow_nil _ _ _ _, fun i hi => absurd hi (Nat.not_lt_zero i)⟩

theorem NdsAt.kept {S : Nat → Prop} {w w' : World} {B : Nat} {v : Value} {l : List Rx.Nd} {ps : List Nat} (h : NdsAt w B v l ps) (hk : Kept S w w') (hS : ∀ k, B ≤ k → ¬ S k) : NdsAt w' B v l ps := by
  refine ⟨h.len, h.none_, ?_, fun i hi => (h.nd i hi).kept hk fun k hk => hS k hk.1⟩
  obtain ⟨h1, h2 | ⟨g, cap, cur, e, hg, hb, r⟩⟩ := h.own
  · exact ⟨h1, .inl h2⟩
  · exact ⟨h1, .inr ⟨g, cap, cur, e, hg, (hk.block g (lt_of_block hb) (hS g hg)).trans hb, r⟩⟩

theorem NdsAt.ex {w : World} {B : Nat} {v : Value} {l : List Rx.Nd} {ps : List Nat} (h : NdsAt w B v l ps) : (l = [] ∧ v = .slice none 0 0) ∨ ∃ (k c : Nat), v = .slice (some ⟨k, 0, none⟩) l.length c ∧ l.length ≤ c ∧ 0 < l.length ∧ B ≤ k ∧ Ptrs w k ps ∧ ∀ i, i < l.length → NdAt w B (ps.getD i 0) (l.getD i .empty) := by
  have hl := h.len
  cases l with
  | nil => exact .inl ⟨rfl, h.none_ rfl⟩
  | cons x t =>
    right
    have ho := h.own
    rcases ho.2 with ⟨-, h2⟩ | ⟨g, cap, cur, e, hg, hb, hc, hm, hs, ht⟩
    · rw [hl] at h2; simp at h2
    · refine ⟨g, cap, by rw [e, hl], by omega, by simp, hg, ?_, fun i hi => (h.nd i hi).mono fun k hk => hk.1⟩
      intro i hi
      have := ho.cells (g := g) (by rw [e]; rfl) i (ptrV (ps.getD i 0)) (by simp [List.getD_eq_getElem?_getD, List.getElem?_eq_getElem hi])
      rw [show ((⟨g, 0, none⟩ : Addr).add i) = ⟨g, i, none⟩ by simp only [Addr.add]; split <;> simp_all] at this
      exact this

theorem NdsAt.push {w w1 : World} {B q : Nat} {v v' : Value} {l : List Rx.Nd} {n : Rx.Nd} {ps : List Nat} {o : Obj} (h : NdsAt w B v l ps) (hn : NdIn w (fun b => B ≤ b ∧ v.ownBlock ≠ some b) q n)
    (hown : w1.ownsRow B 45 1 v' (ps.length + 1) (ps.map ptrV ++ [ptrV q])) (hg : (w.alloc o).grownBy w1 v.ownBlock) (hv : v'.ownBlock = v.ownBlock ∨ v'.ownBlock = some (w.alloc o).heap.size) : NdsAt w1 B v' (l ++ [n]) (ps ++ [q]) := by
  have hl := h.len
  have hk : Kept (fun b => v.ownBlock = some b) (w.alloc o) w1 := ⟨hg.os, hg.tape, hg.output, hg.size, fun k hk hs => hg.block k hk (fun e => hs e.symm)⟩
  have hk0 : Kept (fun _ => False) w (w.alloc o) := (Kept.refl _ _).alloc _
  have mv : ∀ {p : Nat} {x : Rx.Nd}, NdIn w (fun b => B ≤ b ∧ v.ownBlock ≠ some b) p x → NdIn w1 (fun b => B ≤ b ∧ v'.ownBlock ≠ some b) p x := by
    intro p x hx
    refine ((hx.lt.kept hk0 fun _ _ h => h).kept hk fun k hk hs => hk.1.2 hs).mono fun k hk => ⟨hk.1.1, fun e => ?_⟩
    rcases hv with hv | hv
    · exact hk.1.2 (hv ▸ e)
    · rw [hv] at e
      have := Option.some.inj e
      have h2 : (w.alloc o).heap.size = w.heap.size + 1 := by simp
      have := hk.2
      omega
  refine ⟨by simp [hl], fun e => by simp at e, by simpa using hown, fun i hi => ?_⟩
  rcases Nat.lt_or_ge i l.length with h1 | h1
  · have e1 : (ps ++ [q]).getD i 0 = ps.getD i 0 := by simp [List.getD_eq_getElem?_getD, List.getElem?_append_left (show i < ps.length by omega)]
    have e2 : (l ++ [n]).getD i .empty = l.getD i .empty := by simp [List.getD_eq_getElem?_getD, List.getElem?_append_left h1]
    rw [e1, e2]
    exact mv (h.nd i h1)
  · simp at hi
    obtain rfl : i = l.length := by omega
    have e1 : (ps ++ [q]).getD l.length 0 = q := by rw [← hl]; simp [List.getD_eq_getElem?_getD]
    have e2 : (l ++ [n]).getD l.length .empty = n := by simp [List.getD_eq_getElem?_getD]
    rw [e1, e2]
    exact mv hn

theorem Kept.pushed {S : Nat → Prop} {w0 w w1 : World} {o : Obj} {v : Value} (h : Kept S w0 w) (hg : (w.alloc o).grownBy w1 v.ownBlock) (hv : ∀ k, v.ownBlock = some k → w0.heap.size ≤ k) : Kept S w0 w1 := by
  have hk : Kept (fun b => v.ownBlock = some b) (w.alloc o) w1 := ⟨hg.os, hg.tape, hg.output, hg.size, fun k hk hs => hg.block k hk (fun e => hs e.symm)⟩
  exact (h.alloc o).trans' hk fun k hk e => absurd (hv k e) (by omega)

/-- A kind of a list of nodes. -/
inductive Kind2 : Int → (List Rx.Nd → Rx.Nd) → Prop
  | cat : Kind2 4 .cat
  | alt : Kind2 5 .alt

set_option maxHeartbeats 1600000 in
set_option maxRecDepth 100000 in
theorem join_any (kind : Int) (mk : List Rx.Nd → Rx.Nd) (hk : Kind2 kind mk) (v : Value) (l : List Rx.Nd) (ps : List Nat) (B : Nat) (w : World) (h : NdsAt w B v l ps) (hB : B ≤ w.heap.size) (hl : l.length ≤ 1073741824) :
    Calls Tryz.prog 34 #[.int .i64 kind, v] w fun e w' => (∃ p, e = .returned (.pointer (some ⟨p, 0, none⟩)) ∧ NdAt w' B p (Rx.joinN mk l)) ∧ Below w.heap.size w w' := by
  have hpl := h.len
  rcases h.ex with ⟨rfl, rfl⟩ | ⟨k, c, rfl, hc, hpos, hBk, hps, hn⟩
  · go_enter Tryz.func34, Tryz.ntmps34
    go_wp2_with fail
    rw [nd_new]
    go_ret
    exact ⟨⟨w.heap.size, rfl, .empty hB (Blk.new _ _ _)⟩, (Below.refl _ _).alloc (Nat.le_refl _) _⟩
  · rcases l with _ | ⟨x, _ | ⟨y, t⟩⟩
    · simp at hpos
    · obtain ⟨q, rfl⟩ : ∃ q, ps = [q] := by
        rcases ps with _ | ⟨q, _ | ⟨q2, u⟩⟩
        · simp at hpl
        · exact ⟨q, rfl⟩
        · simp at hpl
      have h0 : w.cell? ⟨k, 0, none⟩ = some (.pointer (some ⟨q, 0, none⟩)) := hps 0 (by simp)
      have h1 : NdAt w B q x := hn 0 (by simp)
      have H := Lib.hid h1
      clear hps hn h1
      go_enter Tryz.func34, Tryz.ntmps34
      go_wp2_with fail
      go_ret
      exact ⟨⟨_, rfl, H.out⟩, Below.refl _ _⟩
    · have HPS := Lib.hid hps
      have HN := Lib.hid hn
      have hd0 : ¬ ((t.length : Int) + 1 + 1 = 0) := by omega
      have hd1 : ¬ ((t.length : Int) + 1 + 1 = 1) := by omega
      clear hps hn
      go_enter Tryz.func34, Tryz.ntmps34
      go_wp2_with fail
      rw [nd_new2]
      go_ret
      have hK : Kept (fun _ => False) w (w.alloc (.cells (ndCells kind noHas 0 0 (.slice (some ⟨k, 0, none⟩) (t.length + 1 + 1) c)) 87)) := (Kept.refl _ _).alloc _
      have hb := Blk.new w (ndCells kind noHas 0 0 (.slice (some ⟨k, 0, none⟩) (t.length + 1 + 1) c)) 87
      refine ⟨⟨w.heap.size, rfl, ?_⟩, hK.below⟩
      have hps2 := HPS.out.kept hK id
      have hn2 := fun i hi => (HN.out i hi).kept hK (fun _ _ h => h.elim)
      cases hk with
      | cat => exact .cat hB hb (by simp) ⟨hc, hl⟩ hBk hpl hps2 hn2
      | alt => exact .alt hB hb (by simp) ⟨hc, hl⟩ hBk hpl hps2 hn2

end Go.Proofs.YthdkbbkkijdhfaaGreatDoor
