/-
  Texts of this seat put together: C5, App, C7, K9, K10, K11.
-/
import Derived.Test.YtjdcjdclipbjhaaGreatDoorQ6
import Derived.Deep.Upon

/-
  The walk of cutter.has. Condition: the spans lie in memory.
-/
namespace Go.Proofs.YtjdcjdclipbjhaaGreatDoor
open Go.RowKit Go.Shelf Go.Maps

/-- Does a list hold a place? -/
def hit (x : Co.Spn) (n : Int) : Bool := decide (x.1 ≤ n) && decide (n ≤ x.2)
def hasB (l : List Co.Spn) (n : Int) : Bool := l.any fun x => hit x n

/-- Spans that a slice leads to. -/
def SpansAt (w : World) (p : Option Addr) (l : List Co.Spn) : Prop := 0 < l.length → ∃ b o, p = some ⟨b, o, none⟩ ∧ b < w.heap.size ∧ ∀ i, i < l.length → w.cell? ⟨b, o + i * 2, none⟩ = some (.int .i64 (l.getD i (0, 0)).1) ∧ w.cell? ⟨b, o + i * 2 + 1, none⟩ = some (.int .i64 (l.getD i (0, 0)).2)
theorem SpansAt.below {w w' : World} {p : Option Addr} {l : List Co.Spn} (h : SpansAt w p l) (hb : Below w.heap.size w w') : SpansAt w' p l := fun h0 => by
  obtain ⟨b, o, e, hlt, hc⟩ := h h0
  exact ⟨b, o, e, Nat.lt_of_lt_of_le hlt hb.size, fun i hi => ⟨(hb.cell (p := ⟨b, o + i * 2, none⟩) hlt).trans (hc i hi).1, (hb.cell (p := ⟨b, o + i * 2 + 1, none⟩) hlt).trans (hc i hi).2⟩⟩
theorem SpansOwn.at_ {T : TypeId} {w : World} {B : Nat} {v : Value} {l : List Co.Spn} (h : SpansOwn T w B v l) : ∃ p c, v = .slice p l.length c ∧ l.length ≤ c ∧ SpansAt w p l ∧ ∀ a, p = some a → B ≤ a.block := by
  rcases h.2 with ⟨h1, h0⟩ | ⟨g, cap, cur, rfl, hb, hblk, hc, r⟩
  · refine ⟨none, 0, by rw [h0]; exact h1, by omega, fun h => by omega, fun a e => by cases e⟩
  · refine ⟨_, cap, rfl, hc, fun _ => ⟨g, 0, rfl, lt_of_block hblk, fun i hi => ?_⟩, fun a e => ?_⟩
    · obtain ⟨h1, h2⟩ := spanVals_at l i hi
      rw [Nat.zero_add]
      exact ⟨by rw [h.cellAt (i * 2) (by omega)]; exact h1, by rw [h.cellAt (i * 2 + 1) (by omega)]; exact h2⟩
    · obtain rfl := Option.some.inj e
      exact (h.lt g rfl).1

set_option maxRecDepth 100000 in
theorem hit_any (x : Co.Spn) (n : Int) (q : Nat) (w : World) (hq : w.cell? ⟨q, 0, none⟩ = some (.int .i64 n)) :
    Calls Tryz.prog 210 #[.agg #[.int .i64 x.1, .int .i64 x.2], .pointer (some ⟨q, 0, none⟩)] w fun e w' => e = .returned (.bool (hit x n)) ∧ Below w.heap.size w w' := by
  obtain ⟨f, t⟩ := x
  have h1 := new_cell hq (.cells #[.int .i64 f, .int .i64 t] 30)
  have h2 := (Blk.new w #[.int .i64 f, .int .i64 t] 30).cell 0 (v := .int .i64 f) rfl
  have h3 := (Blk.new w #[.int .i64 f, .int .i64 t] 30).cell 1 (v := .int .i64 t) rfl
  have hb : Below w.heap.size w (w.alloc (.cells #[.int .i64 f, .int .i64 t] 30)) := (Below.refl _ _).alloc (Nat.le_refl _) _
  unfold hit
  simp only
  cases e1 : decide (f ≤ n) with
  | false =>
    go_enter Tryz.func210, Tryz.ntmps210
    go_wp2_with fail
    go_ret
    exact ⟨rfl, hb⟩
  | true =>
    go_enter Tryz.func210, Tryz.ntmps210
    go_wp2_with fail
    go_ret
    exact ⟨rfl, hb⟩

theorem hasB_take {l : List Co.Spn} {n : Int} {k : Nat} (hk : k < l.length) (h : hasB (l.take k) n = false) (hx : hit (l.getD k (0, 0)) n = false) : hasB (l.take (k + 1)) n = false := by
  unfold hasB at *
  rw [List.take_succ_eq_append_getElem hk, List.any_append, h]
  have e : l[k] = l.getD k (0, 0) := by simp [List.getD_eq_getElem?_getD, List.getElem?_eq_getElem hk]
  simp only [List.any_cons, List.any_nil, Bool.or_false, Bool.false_or]
  rw [e]
  exact hx
theorem hasB_at {l : List Co.Spn} {n : Int} {k : Nat} (hk : k < l.length) (hx : hit (l.getD k (0, 0)) n = true) : hasB l n = true := by
  unfold hasB
  rw [List.any_eq_true]
  have e : l[k] = l.getD k (0, 0) := by simp [List.getD_eq_getElem?_getD, List.getElem?_eq_getElem hk]
  exact ⟨l[k], List.getElem_mem hk, by rw [e]; exact hx⟩

set_option maxRecDepth 100000 in
set_option maxHeartbeats 4000000 in
theorem idxSpan_any (l : List Co.Spn) (n : Int) (p : Option Addr) (cap : Nat) (hN : l.length ≤ 1073741824) (q : Nat) (w : World) (h : SpansAt w p l) (hq : w.cell? ⟨q, 0, none⟩ = some (.int .i64 n)) :
    Calls Tryz.prog 255 #[.slice p l.length cap, .func (.func 210) #[] #[.pointer (some ⟨q, 0, none⟩)]] w fun e w' => (∃ i : Int, e = .returned (.int .i64 i) ∧ decide (0 ≤ i) = hasB l n) ∧ Below w.heap.size w w' := by
  have HH := Lib.hid h
  have HQ := Lib.hid hq
  clear h hq
  go_enter Tryz.func255, Tryz.ntmps255
  go_wp2_with fail
  go_loopw [5, 8] (fun _x5 i wr => ∃ k : Nat, k ≤ l.length ∧ i = .int .i64 k ∧ Hid (hasB (l.take k) n = false) ∧ Hid (Below w.heap.size w wr)) (fun _ i _ => l.length - (intOf i).toNat)
  case atStart => exact ⟨0, Nat.zero_le _, rfl, Lib.hid rfl, Lib.hid (Below.refl _ _)⟩
  case round =>
    obtain ⟨k, hk, rfl, hf, hb⟩ := hrel
    by_cases hlt : k < l.length
    · obtain ⟨b, o, rfl, hblt, hc⟩ := HH.out (by omega)
      obtain ⟨c1, c2⟩ := hc k hlt
      have d1 := (hb.out.cell (p := ⟨b, o + k * 2, none⟩) hblt).trans c1
      have d2 := (hb.out.cell (p := ⟨b, o + k * 2 + 1, none⟩) hblt).trans c2
      have hq' := (hb.out.cell (p := ⟨q, 0, none⟩) (World.block_lt_of_cell? _ _ HQ.out)).trans HQ.out
      obtain ⟨f, t, hx⟩ : ∃ f t, l.getD k (0, 0) = (f, t) := ⟨_, _, rfl⟩
      rw [hx] at d1 d2
      have HX := Lib.hid hx
      have h1 := hit_any (f, t) n q wr hq'
      clear c1 c2 hc hx hq'
      simp only at d1 d2 h1
      obtain ⟨hh, hhe⟩ : ∃ hh, hit (f, t) n = hh := ⟨_, rfl⟩
      rw [hhe] at h1
      have HHE := Lib.hid hhe
      clear hhe
      go_wp2_with fail
      refine h1.mono ?_
      rintro e w2 ⟨rfl, hb2⟩
      have HB2 := Lib.hid (hb.out.trans (hb2.mono hb.out.size))
      clear hb2 h1
      cases hh with
      | true =>
        have HA : Hid (hasB l n = true) := hasB_at hlt (by rw [HX.out]; exact HHE.out)
        go_wp2_with fail
        go_ret
        exact ⟨⟨_, rfl, by rw [HA.out]; simp⟩, HB2.out⟩
      | false =>
        have HA : Hid (hasB (l.take (k + 1)) n = false) := hasB_take hlt hf.out (by rw [HX.out]; exact HHE.out)
        go_wp2_with fail
        go_roundw
        case rel => exact ⟨k + 1, by omega, by go_num, HA, HB2⟩
        case measure => simp [intOf]; omega
    · obtain rfl : k = l.length := by omega
      have HA : Hid (hasB l n = false) := by have := hf.out; rw [List.take_of_length_le (Nat.le_refl _)] at this; exact this
      go_wp2_with fail
      go_ret
      exact ⟨⟨_, rfl, by rw [HA.out]; rfl⟩, hb.out⟩

set_option maxRecDepth 100000 in
set_option maxHeartbeats 4000000 in
theorem hasSpan_any (l : List Co.Spn) (n : Int) (p : Option Addr) (cap : Nat) (hN : l.length ≤ 1073741824) (fl so : Bool) (sp : Int) (w : World) (h : SpansAt w p l) :
    Calls Tryz.prog 158 #[.agg #[.slice p l.length cap, .bool fl, .int .u8 sp, .bool so], .int .i64 n] w fun e w' => e = .returned (.bool (hasB l n)) ∧ Below w.heap.size w w' := by
  have hmf : ∀ (fn : Fn) (first cap : Array Value) (w : World), (Instr.makeFunc fn first cap).run Tryz.prog w = .ok (.func fn first cap) w := fun _ _ _ _ => rfl
  obtain ⟨w1, hw1⟩ : ∃ w1, (w.alloc (.cells #[.slice p l.length cap, .bool fl, .int .u8 sp, .bool so] 210)).alloc (.cells #[.int .i64 n] 3) = w1 := ⟨_, rfl⟩
  have hb1 : Below w.heap.size w w1 := by rw [← hw1]; exact ((Below.refl _ _).alloc (Nat.le_refl _) _).alloc (by simp) _
  have hk1 : Blk w1 w.heap.size #[.slice p l.length cap, .bool fl, .int .u8 sp, .bool so] 210 := by rw [← hw1]; exact (Blk.new _ _ _).alloc _
  have hn1 : w1.cell? ⟨w.heap.size + 1, 0, none⟩ = some (.int .i64 n) := by
    rw [← hw1]
    have := (Blk.new (w.alloc (.cells #[.slice p l.length cap, .bool fl, .int .u8 sp, .bool so] 210)) #[.int .i64 n] 3).cell 0 (v := .int .i64 n) rfl
    simpa only [World.size_alloc] using this
  have hi := idxSpan_any l n p cap hN (w.heap.size + 1) w1 (h.below hb1) hn1
  have hcf : Calls Tryz.prog 209 #[.slice p l.length cap, .func (.func 210) #[] #[.pointer (some ⟨w.heap.size + 1, 0, none⟩)]] w1 fun e w' => e = .returned (.bool (hasB l n)) ∧ Below w.heap.size w w' := by
    clear h hk1 hn1 hw1
    go_enter Tryz.func209, Tryz.ntmps209
    go_wp2_with fail
    refine hi.mono ?_
    rintro e w2 ⟨⟨i, rfl, hd⟩, hb2⟩
    have HD := Lib.hid hd
    have HB := Lib.hid (hb1.trans (hb2.mono hb1.size))
    clear hd hb2 hi hb1
    go_wp2_with fail
    go_ret
    exact ⟨by rw [HD.out]; rfl, HB.out⟩
  have c0 := hk1.cell 0 (v := .slice p l.length cap) rfl
  clear hi h hb1 hk1 hn1
  go_enter Tryz.func158, Tryz.ntmps158
  go_wp2_with fail
  try rw [hw1]
  trace_state
  refine hcf.mono ?_
  rintro e w2 ⟨rfl, hb2⟩
  have HB := Lib.hid hb2
  clear hb2 hcf
  go_wp2_with fail
  go_ret
  exact ⟨rfl, HB.out⟩

end Go.Proofs.YtjdcjdclipbjhaaGreatDoor

/-
  append of bytes onto a slice of one's own, whatever is appended lies where it may. Condition: the bytes are known, in memory.
-/
namespace Go.Proofs.YtjdcjdclipbjhaaGreatDoor
open Go.RowKit Go.Shelf Go.Maps

set_option maxRecDepth 100000 in
theorem append_bytes {ops : Array Oper} {rest : List Oper} {o : Oper} {a : Act} {w : World} {Q : Exit → Act → World → Prop} (hgd : o.guard = none) (s x : Operand)
    (ho : o.op = .call { callee := .builtin .append, args := #[s, x], argTypes := #[33, 33] }) (base : Nat) (v : Value) (n : Nat) (xs : List Value) (hs : a.eval s = v) (hown : w.ownsRow base 5 1 v n xs)
    (xp : Option Addr) (xb : Bts) (c : Nat) (hx : a.eval x = .slice xp xb.length c) (hbs : Bs w xp xb) (h63 : n + xb.length ≤ 4294967296) (hbase : base ≤ w.heap.size)
    (h : ∀ v' w', w'.ownsRow base 5 1 v' (n + xb.length) (xs ++ xb.map u8V) → w.grownBy w' v.ownBlock → (v'.ownBlock = v.ownBlock ∨ v'.ownBlock = some w.heap.size) → wpList Tryz.prog ops Q rest (a.put o.dst v') w') : wpList Tryz.prog ops Q (o :: rest) a w := by
  obtain ⟨i0, hi, hz0, hz1, hz2⟩ := info_parts info_byte
  have own (ad : Addr) (hxp : xp = some ad) (hc : ∀ j u, (xb.map u8V)[j]? = some u → w.cell? (ad.add j) = some u) : wpList Tryz.prog ops Q (o :: rest) a w := by
    subst hxp
    exact wpList_append_own_at w hgd s x _ ho base 5 i0 (.int .u8 0) 1 1 Tryz.underlying33 hi hz0 hz1 hz2 rfl (by decide) v n xs hs hown ad xb.length c (xb.map u8V) hx (by simp) hc (by simp [u8V, Value.oneCell']) (by unfold maxLen; omega) (by omega) hbase fun v' w' h1 h2 _ h4 => h v' w' h1 h2 h4
  cases xb with
  | nil =>
    cases xp with
    | some ad => exact own ad rfl fun j u hu => by simp at hu
    | none =>
      have hsrc : Src Tryz.prog i0.size 33 (.slice none 0 c) 0 [] w := Src.ofNil w Tryz.underlying33 c
      have hle : ∃ bb sl sc, v = .slice bb sl sc ∧ sl ≤ sc := by
        rcases hown.2 with ⟨h1, -⟩ | ⟨g, cap, cur, e, -, -, hc, -⟩
        · exact ⟨_, _, _, h1, Nat.le_refl _⟩
        · exact ⟨_, _, _, e, hc⟩
      obtain ⟨bb, sl, sc, rfl, hle⟩ := hle
      have hr := run_append_nothing (P := Tryz.prog) w 33 33 o.type 5 i0 Tryz.underlying33 hi bb sl sc hle (.slice none 0 c) hsrc
      refine wpList_plain hgd fun K hK => ?_
      unfold Oper.wp execOp
      have hx' : a.eval x = .slice none 0 c := hx
      simp only [ho, resolve, invoke, builtin, Sem.run_bind, Sem.run_pure, Result.andThen_ok, List.map_toArray, List.map_cons, List.map_nil, hs, hx', hr]
      exact hK _ _ (h _ _ (by simpa using hown) ⟨rfl, rfl, rfl, Nat.le_refl _, fun _ _ _ => rfl⟩ (.inl rfl))
  | cons z r =>
    obtain ⟨bb, bo, hp, hc⟩ := hbs (by simp)
    refine own _ hp fun j u hu => ?_
    rw [List.getElem?_map] at hu
    have hj : j < (z :: r).length := by
      rcases Nat.lt_or_ge j (z :: r).length with h1 | h1
      · exact h1
      · rw [List.getElem?_eq_none h1] at hu; cases hu
    rw [List.getElem?_eq_getElem hj] at hu
    simp only [Option.map_some, Option.some.injEq] at hu
    have := hc j hj
    rw [show ((⟨bb, bo, none⟩ : Addr).add j) = ⟨bb, bo + j, none⟩ by simp only [Addr.add]; split <;> simp_all, this, ← hu]
    simp [u8V, List.getD_eq_getElem?_getD, List.getElem?_eq_getElem hj]

/-- Bytes that lie in a row of one's own. -/
theorem bs_own {w : World} {base : Nat} {v : Value} {b : Bts} {n : Nat} (h : w.ownsRow base 5 1 v n (b.map u8V)) (hn : n = b.length) : ∃ p c, v = .slice p b.length c ∧ Bs w p b := by
  subst hn
  rcases h.2 with ⟨h1, h2⟩ | ⟨g, cap, cur, e, -⟩
  · have : b = [] := List.length_eq_zero_iff.1 h2
    subst this
    exact ⟨none, 0, h1, Bs.nil _ _⟩
  · refine ⟨_, _, e, fun _ => ⟨g, 0, rfl, fun i hi => ?_⟩⟩
    have := h.cells (g := g) (by rw [e]; rfl) i (u8V (b.getD i 0)) (by rw [List.getElem?_map, List.getElem?_eq_getElem hi]; simp [List.getD_eq_getElem?_getD, List.getElem?_eq_getElem hi])
    rw [show ((⟨g, 0, none⟩ : Addr).add i) = ⟨g, 0 + i, none⟩ by simp only [Addr.add]; split <;> simp_all] at this
    exact this

end Go.Proofs.YtjdcjdclipbjhaaGreatDoor

/-
  The walk of a cutter's line, by places of bytes. Conditions: the spans and the line lie in memory; lengths.
-/
namespace Go.Proofs.YtjdcjdclipbjhaaGreatDoor
open Go.RowKit Go.Shelf Go.Maps

/-- The bytes that a list holds. -/
def sel (l : List Co.Spn) : Nat → Bts → Bts
  | _, [] => []
  | i, c :: r => if hasB l ((i + 1 : Nat) : Int) = true then c :: sel l (i + 1) r else sel l (i + 1) r
theorem sel_len (l : List Co.Spn) : ∀ (b : Bts) (i : Nat), (sel l i b).length ≤ b.length
  | [], _ => by simp [sel]
  | c :: r, i => by
    have := sel_len l r (i + 1)
    rw [sel]
    split <;> simp <;> omega

/-- What a cutter's line hands back. -/
def CutPost (r : Bts) (w : World) (e : Ending) (w' : World) : Prop := ∃ v, e = .returned (.tuple #[v, .bool true]) ∧ Sl w' (fun _ => True) v r ∧ Below w.heap.size w w'

set_option maxRecDepth 100000 in
set_option maxHeartbeats 8000000 in
theorem lineChars_any (l : List Co.Spn) (q : Option Addr) (cap : Nat) (hN : l.length ≤ 1073741824) (so : Bool) (sp : Int) (pv : Option Addr) (cv : Nat) (bs : Bts) (hl : bs.length ≤ 1073741824) (w : World) (h : SpansAt w q l) (hb : Bs w pv bs) :
    Calls Tryz.prog 97 #[.agg #[.slice q l.length cap, .bool false, .int .u8 sp, .bool so], .slice pv bs.length cv] w fun e w' => CutPost (sel l 0 bs) w e w' := by
  obtain ⟨R, hR⟩ : ∃ R, sel l 0 bs = R := ⟨_, rfl⟩
  rw [hR]
  obtain ⟨i0, hi, hz0, hz1, hz2⟩ := info_parts info_byte
  obtain ⟨w1, hw1⟩ : ∃ w1, w.alloc (.cells #[.slice q l.length cap, .bool false, .int .u8 sp, .bool so] 210) = w1 := ⟨_, rfl⟩
  have hb1 : Below w.heap.size w w1 := by rw [← hw1]; exact (Below.refl _ _).alloc (Nat.le_refl _) _
  have hk1 : Blk w1 w.heap.size #[.slice q l.length cap, .bool false, .int .u8 sp, .bool so] 210 := by rw [← hw1]; exact Blk.new _ _ _
  have c1 := hk1.cell 1 (v := .bool false) rfl
  have HB1 := Lib.hid hb1
  have HK1 := Lib.hid hk1
  have HSP := Lib.hid (h.below hb1)
  have HBS := Lib.hid (hb.below hb1 (Nat.le_refl _))
  have HR := Lib.hid hR
  clear hb1 hk1 h hb hR
  go_enter Tryz.func97, Tryz.ntmps97
  go_upto_region 1 with fail
  try rw [hw1]
  go_wp2_with fail
  clear c1
  go_loopw [6, 7, 8, 17] (fun x6 _ _ x17 wr => ∃ (k : Nat) (out : Bts), k ≤ bs.length ∧ out.length ≤ k ∧ x17 = .int .i64 k ∧ Hid (wr.ownsRow w1.heap.size 5 1 x6 out.length (out.map u8V)) ∧ Hid (Below w1.heap.size w1 wr) ∧ Hid (out ++ sel l k (bs.drop k) = R)) (fun _ _ _ x17 _ => bs.length - (intOf x17).toNat)
  case atStart => exact ⟨0, [], Nat.zero_le _, Nat.le_refl _, rfl, Lib.hid (World.ownsRow_nil _ _ _ _), Lib.hid (Below.refl _ _), HR⟩
  case round =>
    obtain ⟨k, out, hk, hok, rfl, HO, HBR, HGO⟩ := hrel
    obtain ⟨p, c, rfl⟩ := own_shape HO.out
    have HB := Lib.hid (HB1.out.trans (HBR.out.mono HB1.out.size))
    by_cases hlt : k < bs.length
    · have e1 : decide ((k : Int) < bs.length) = true := by simp; omega
      have e2 : decide (k < bs.length) = true := by simp; omega
      have f1 : (0 : Int) ≤ k := by omega
      have f2 : (k : Int) < bs.length := by omega
      obtain ⟨b, o, rfl, hc⟩ := HBS.out (by omega)
      obtain ⟨ch, hch⟩ : ∃ ch, bs.getD k 0 = ch := ⟨_, rfl⟩
      have hcell := hc k hlt
      rw [hch] at hcell
      have hcl := (HBR.out.cell (p := ⟨b, o + k, none⟩) (World.block_lt_of_cell? _ _ hcell)).trans hcell
      have hdr : bs.drop k = ch :: bs.drop (k + 1) := by
        rw [List.drop_eq_getElem_cons hlt, ← hch, List.getD_eq_getElem?_getD, List.getElem?_eq_getElem hlt]; rfl
      have hgo := HGO.out
      rw [hdr, sel] at hgo
      have hkr := HK1.out.keep HBR.out HK1.out.lt
      have c0 := hkr.cell 0 (v := .slice q l.length cap) rfl
      have c1 := hkr.cell 1 (v := .bool false) rfl
      have c2 := hkr.cell 2 (v := .int .u8 sp) rfl
      have c3 := hkr.cell 3 (v := .bool so) rfl
      have q1 : IntKind.i64.wrap ((k : Int) + 1) = ((k + 1 : Nat) : Int) := by rw [IntKind.wrap_i64]; omega
      have q2 : wrap64 ((k : Int) + 1) = ((k + 1 : Nat) : Int) := by rw [wrap64]; omega
      have hha := hasSpan_any l ((k + 1 : Nat) : Int) q cap hN false so sp wr (HSP.out.below HBR.out)
      obtain ⟨hv, hhv⟩ : ∃ hv, hasB l ((k + 1 : Nat) : Int) = hv := ⟨_, rfl⟩
      rw [hhv] at hha hgo
      have HGO2 := Lib.hid hgo
      clear hc hcell hch hdr hgo hkr hhv
      go_wp2_with fail
      refine hha.mono ?_
      rintro e w2 ⟨rfl, hb2⟩
      have HB2 := Lib.hid (HB.out.trans (hb2.mono HB.out.size))
      have HBR2 := Lib.hid (HBR.out.trans (hb2.mono HBR.out.size))
      have HO2 := Lib.hid (row_keep HO.out hb2)
      have hgo2 := HGO2.out
      clear hha hb2 c0 c1 c2 c3 HGO2
      cases hv with
      | false =>
        rw [if_neg (by simp)] at hgo2
        have HGO3 := Lib.hid hgo2
        clear hgo2
        go_wp2_with fail
        go_roundw
        case rel => exact ⟨k + 1, out, by omega, by omega, by go_num, HO2, HBR2, HGO3⟩
        case measure => simp [intOf]; omega
      | true =>
        rw [if_pos rfl] at hgo2
        have HGO3 := Lib.hid hgo2
        clear hgo2
        go_wp2_with (at_builtin; refine wpList_append_own _ rfl _ _ 33 rfl w1.heap.size 5 i0 (.int .u8 0) 1 1 Tryz.underlying33 hi hz0 hz1 hz2 rfl (by decide) _ _ _ rfl (HO2.out.alloc _) ⟨w2.heap.size, 0, none⟩ 1 1 [.int .u8 ch.toNat] rfl rfl (cell_one_new _ _ _) (by simp [Value.oneCell']) (by unfold maxLen; first | omega | (simp <;> omega)) (by first | omega | (simp <;> omega)) (by have := HBR2.out.size; simp <;> omega) ?_; intro v' w3 hown' hgrow _)
        have hb3 : Below w1.heap.size w1 w3 := (HBR2.out.alloc HBR2.out.size _).grown hgrow (by have := HBR2.out.size; simp <;> omega) fun j hj => (HO2.out.lt j hj).1
        go_roundw
        case rel => exact ⟨k + 1, out ++ [ch], by omega, by simp; omega, by go_num, Lib.hid (by simpa [u8V] using hown'), Lib.hid hb3, Lib.hid (by rw [List.append_assoc]; exact HGO3.out)⟩
        case measure => simp [intOf]; omega
    · obtain rfl : k = bs.length := by omega
      have e1 : decide ((bs.length : Int) < bs.length) = false := by simp
      have hR4 : out = R := by
        have := HGO.out
        rw [List.drop_of_length_le (Nat.le_refl _), sel, List.append_nil] at this
        exact this
      subst hR4
      have hs := Sl.own HO.out
      have HS := Lib.hid hs
      clear hs
      go_wp2_with fail
      go_ret2
      exact ⟨_, rfl, HS.out.mono fun _ _ _ => trivial, HB.out⟩

end Go.Proofs.YtjdcjdclipbjhaaGreatDoor

/-
  The walks of has, fault (there is none), short, land (at a sink), Write (at a sink), Read (from a source). Conditions: lengths.
-/
namespace Go.Proofs.YtjdcjdclipbjhaaGreatDoor
open Go.RowKit Go.Shelf Go.Maps

set_option maxRecDepth 100000 in
set_option maxHeartbeats 2000000 in
theorem has_any (tb : Nat) (fd : Nat) (hfd : fd < 16) (x : Value) (w : World) (hc : w.cell? ⟨tb, 1 + fd, none⟩ = some x) (_hx : x.oneCell' = true) :
    Calls Tryz.prog 260 #[.pointer (some ⟨tb, 0, none⟩), .int .i64 fd] w fun e w' => e = .returned x ∧ w' = w := by
  go_enter Tryz.func260, Tryz.ntmps260
  go_wp2_with fail
  go_ret
  exact ⟨rfl, rfl⟩

/-- No fault. -/
def noFault : Value := .agg #[.int .i64 0, .int .i64 0]

set_option maxRecDepth 100000 in
set_option maxHeartbeats 2000000 in
theorem fault_none (k t last m : Nat) (w : World) (hk : KernAt w k t last m) : Calls Tryz.prog 282 #[.pointer (some ⟨k, 0, none⟩)] w fun e w' => e = .returned noFault ∧ Below w.heap.size w w' := by
  have q2 := new_cell (hk.cell 2 (v := .slice none 0 0) rfl) (.cells #[.int .i64 0, .int .i64 0] 162)
  have q3 := new_cell (hk.cell 3 (v := .int .i64 0) rfl) (.cells #[.int .i64 0, .int .i64 0] 162)
  clear hk
  unfold noFault
  go_enter Tryz.func282, Tryz.ntmps282
  go_wp2_with fail
  go_region
  have hn := Blk.drew (Blk.new w #[.int .i64 0, .int .i64 0] 162)
  have c0 := hn.cell 0 rfl
  have c1 := hn.cell 1 rfl
  have f0 := hn.free 0
  have f1 := hn.free 1
  go_wp2_with fail
  refine bodyPost_ret (v := .agg #[.int .i64 0, .int .i64 0]) ?_ rfl ⟨rfl, ((Below.refl w.heap.size w).alloc (Nat.le_refl _) _).drew⟩
  simp [results, Tryz.results282, go_sem, c0, c1]

set_option maxRecDepth 100000 in
set_option maxHeartbeats 2000000 in
theorem short_none (n : Int) (w : World) : Calls Tryz.prog 283 #[.int .i64 n, noFault] w fun e w' => e = .returned (.int .i64 n) ∧ Below w.heap.size w w' := by
  unfold noFault
  go_enter Tryz.func283, Tryz.ntmps283
  go_wp2_with fail
  have hn := Blk.new w #[.int .i64 0, .int .i64 0] 162
  have c0 := hn.cell 0 (v := .int .i64 0) rfl
  go_wp2_with fail
  go_ret
  exact ⟨rfl, (Below.refl _ _).alloc (Nat.le_refl _) _⟩

set_option maxRecDepth 100000 in
set_option maxHeartbeats 2000000 in
theorem land_sink (k : Option Addr) (b : Nat) (v : Value) (out : Bts) (q : Option Addr) (xs : Bts) (c : Nat) (w : World) (hb : Blk w b #[v] 188) (ho : w.ownsRow 0 5 1 v out.length (out.map u8V)) (hx : Bs w q xs) (h0 : xs ≠ []) (hv : v.ownBlock ≠ some b)
    (hbig : out.length + xs.length ≤ 4294967296) :
    Calls Tryz.prog 284 #[.pointer k, thV 187 b, .slice q xs.length c] w fun e w' => (∃ u, e = .returned u) ∧ ∃ v', Blk w' b #[v'] 188 ∧ w'.ownsRow 0 5 1 v' (out ++ xs).length ((out ++ xs).map u8V) ∧ (v'.ownBlock = v.ownBlock ∨ v'.ownBlock = some w.heap.size) ∧ Kept (fun j => j = b ∨ v.ownBlock = some j) w w' := by
  have h5 := ta_sink_sink
  have hblt := hb.lt
  obtain ⟨z, hz⟩ : ∃ z, xs.length = z + 1 := ⟨xs.length - 1, by have := List.length_pos_iff.2 h0; omega⟩
  have c0 := hb.cell 0 (v := v) rfl
  have hsv : ∃ p n c, v = .slice p n c := by
    rcases ho.2 with ⟨h1, h2⟩ | ⟨g, cap, cur, e, -⟩
    · exact ⟨_, _, _, h1⟩
    · exact ⟨_, _, _, e⟩
  obtain ⟨p0, n0, k0, rfl⟩ := hsv
  unfold thV at *
  go_enter Tryz.func284, Tryz.ntmps284
  go_wp2_with (refine append_bytes rfl _ _ rfl 0 _ _ _ rfl ho q xs c rfl hx hbig (Nat.zero_le _) ?_; intro v' w1 hown1 hg1 hob1; rw [hz, ← Nat.add_assoc] at hown1; obtain ⟨g1, cap1, rfl⟩ := own_slice hown1; have hb1 : Blk w1 b #[.slice p0 n0 k0] 188 := (hg1.block b hblt (fun e => hv e.symm)).trans hb; have d0 := hb1.cell 0 rfl; have e0 := hb1.free 0)
  refine bodyPost_end (results_none rfl _ _ _) rfl ?_
  refine ⟨⟨_, rfl⟩, _, hb1.set 0 _, ?_, hob1, ?_⟩
  · have hl : (out ++ xs).length = out.length + z + 1 := by rw [List.length_append, hz]; omega
    rw [hl, List.map_append]
    refine own_kept hown1 ((Kept.refl (fun j => j = b) _).setCell (.inl rfl) 0 _) fun j hj => ?_
    rintro rfl
    rcases hob1 with h | h
    · exact hv (h.symm.trans hj)
    · rw [h] at hj
      have := Option.some.inj hj
      omega
  · have hk1 : Kept (fun j => j = b ∨ (Value.slice p0 n0 k0).ownBlock = some j) w w1 := ⟨hg1.os, hg1.tape, hg1.output, hg1.size, fun j hj hs => hg1.block j hj fun e => hs (.inr e.symm)⟩
    exact hk1.setCell (.inl (.inl rfl)) 0 _

end Go.Proofs.YtjdcjdclipbjhaaGreatDoor

/-
  The walks of Table.Write at a sink, Table.Read from a source. Conditions: lengths.
-/
namespace Go.Proofs.YtjdcjdclipbjhaaGreatDoor
open Go.RowKit Go.Shelf Go.Maps

set_option maxRecDepth 100000 in
set_option maxHeartbeats 4000000 in
theorem tabWrite_any (tb fd k t last m : Nat) (hfd : fd < 16) (b : Nat) (v : Value) (out : Bts) (q : Option Addr) (xs : Bts) (c : Nat) (w : World) (hk : KernAt w k t last m) (hc0 : w.cell? ⟨tb, 0, none⟩ = some (.pointer (some ⟨k, 0, none⟩))) (hc : w.cell? ⟨tb, 1 + fd, none⟩ = some (thV 187 b))
    (hb : Blk w b #[v] 188) (ho : w.ownsRow 0 5 1 v out.length (out.map u8V)) (hx : Bs w q xs) (h0 : xs ≠ []) (hv : v.ownBlock ≠ some b) (hbig : out.length + xs.length ≤ 4294967296) (hcap : xs.length ≤ c) (hbt : b ≠ tb) (hvt : v.ownBlock ≠ some tb) :
    Calls Tryz.prog 252 #[.pointer (some ⟨tb, 0, none⟩), .int .i64 fd, .slice q xs.length c] w fun e w' => e = .returned (.tuple #[.int .i64 xs.length, .int .i64 0]) ∧ ∃ v', Blk w' b #[v'] 188 ∧ w'.ownsRow 0 5 1 v' (out ++ xs).length ((out ++ xs).map u8V) ∧ (∀ j, v'.ownBlock = some j → v.ownBlock = some j ∨ w.heap.size ≤ j) ∧ Kept (fun j => j = b ∨ v.ownBlock = some j) w w' := by
  have h5 := ta_sink_sink
  have hh := has_any tb fd hfd (thV 187 b) w hc rfl
  have hpos : 0 < xs.length := List.length_pos_iff.2 h0
  have hn0 : ((xs.length : Int) == 0) = false := by simp; omega
  have hblt := hb.lt
  have htl := World.block_lt_of_cell? _ _ hc0
  have hvl : ∀ j, v.ownBlock = some j → j < w.heap.size := fun j hj => (ho.lt j hj).2
  obtain ⟨bx, ox, rfl, hxc⟩ := hx hpos
  have hxl : bx < w.heap.size := World.block_lt_of_cell? _ _ (hxc 0 hpos)
  have HC := Lib.hid hxc
  have HX0 := Lib.hid hx
  have HK := Lib.hid hk
  have HB := Lib.hid hb
  have HO := Lib.hid ho
  clear hxc hx hk hb ho
  have hfn := fault_none k t last m w HK.out
  have hsn := short_none
  unfold thV at *
  unfold noFault at hfn hsn
  go_enter Tryz.func252, Tryz.ntmps252
  go_wp2_with fail
  refine hh.mono ?_
  rintro e w' ⟨rfl, rfl⟩
  clear hh
  go_wp2_with fail
  refine hfn.mono ?_
  rintro e w1 ⟨rfl, hb1⟩
  have hb2 : Below w'.heap.size w' (w1.alloc (.cells #[.int .i64 0, .int .i64 0] 162)) := hb1.alloc hb1.size _
  have hn := Blk.new w1 #[.int .i64 0, .int .i64 0] 162
  have n0 := hn.cell 0 (v := .int .i64 0) rfl
  have n1 := hn.cell 1 (v := .int .i64 0) rfl
  have f0 := hn.free 0
  have f1 := hn.free 1
  have HB2 := Lib.hid hb2
  clear hn hb2
  go_wp2_with fail
  refine (hsn _ _).mono ?_
  rintro e w3 ⟨rfl, hb3⟩
  have hb4 := HB2.out.trans (hb3.mono HB2.out.size)
  have t3 := (hb4.cell (p := ⟨tb, 0, none⟩) htl).trans hc0
  have hB3 : Blk w3 b #[v] 188 := HB.out.keep hb4 hblt
  have hO3 : w3.ownsRow 0 5 1 v out.length (out.map u8V) := own_kept HO.out (Kept.of_below (S := fun _ => False) hb4) fun _ _ h => h
  have hX3 : Bs w3 (some ⟨bx, ox, none⟩) xs := HX0.out.below hb4 (Nat.le_refl _)
  have HL := fun W (h : Below w3.heap.size w3 W) => land_sink (some ⟨k, 0, none⟩) b v out (some ⟨bx, ox, none⟩) xs c W (hB3.keep h hB3.lt) (own_kept hO3 (Kept.of_below (S := fun _ => False) h) fun _ _ h => h) (hX3.below h (Nat.le_refl _)) h0 hv hbig
  have HLL := Lib.hid HL
  have HB4 := Lib.hid hb4
  have HX3 := Lib.hid hX3
  clear HL hB3 hO3 hX3 hb4 hb3
  unfold thV at HLL
  have hle : (xs.length : Int) ≤ c := by omega
  have hle0 : (0 : Int) ≤ xs.length := by omega
  go_wp2_with fail
  go_region_held3 (fun w' => w'.cell? ⟨tb, 0, none⟩ = some (.pointer (some ⟨k, 0, none⟩))) (first | go_keep | exact HT4.out)
    ((go_at_call 284; refine (HLL.out _ ((Below.refl _ _).drew)).mono ?_; rintro e w4 ⟨⟨u, rfl⟩, v', hB5, hO5, hv5, hK5⟩; have HT4 := Lib.hid (show w4.cell? ⟨tb, 0, none⟩ = some (.pointer (some ⟨k, 0, none⟩)) from (World.cell?_of_block (hK5.block tb (World.block_lt_of_cell? _ _ t3) (by rintro (h | h); exact hbt h.symm; exact hvt h))).trans t3); have HY1 := Lib.hid hB5; have HY2 := Lib.hid hO5; have HY3 := Lib.hid hv5; have HY4 := Lib.hid hK5; clear hB5 hO5 hv5 hK5))
  go_wp2_with fail
  go_ret2
  have hk4 : Kept (fun j => j = b ∨ v.ownBlock = some j) w' w4 := ((Kept.of_below HB4.out).trans (Kept.of_below (below_drew2 w3))).trans HY4.out
  refine ⟨rfl, v', HY1.out, HY2.out, ?_, hk4⟩
  intro j hj
  rcases HY3.out with h | h
  · exact .inl (h ▸ hj)
  · rw [h] at hj
    have := Option.some.inj hj
    have := HB4.out.size
    right
    simp at *
    omega

end Go.Proofs.YtjdcjdclipbjhaaGreatDoor

/-
  The walk of Table.Read from a source. Conditions: lengths; at least one byte is asked for.
-/
namespace Go.Proofs.YtjdcjdclipbjhaaGreatDoor
open Go.RowKit Go.Shelf Go.Maps

theorem ta_dir_source (v : Value) (w : World) : (Instr.typeAssert (.iface 183 v) 172 395 true).run Tryz.prog w = .ok (.tuple #[.agg #[], .bool false]) w := by kernel_rfl
theorem ta_source_source (v : Value) (w : World) : (Instr.typeAssert (.iface 183 v) 172 183 true).run Tryz.prog w = .ok (.tuple #[v, .bool true]) w := by kernel_rfl

set_option maxRecDepth 100000 in
set_option maxHeartbeats 4000000 in
theorem tabRead_any (tb fd k t last m : Nat) (hfd : fd < 16) (b : Nat) (N : Nat → Prop) (inp : Bts) (most : Nat) (hm : 1 ≤ most) (hm2 : most < 9223372036854775808) (w : World) (hk : KernAt w k t last m) (hc0 : w.cell? ⟨tb, 0, none⟩ = some (.pointer (some ⟨k, 0, none⟩))) (hc : w.cell? ⟨tb, 1 + fd, none⟩ = some (thV 183 b))
    (hs : SrcAt w N b inp) (hNb : ¬ N b) (hbig : inp.length ≤ 4294967296) :
    Calls Tryz.prog 254 #[.pointer (some ⟨tb, 0, none⟩), .int .i64 fd, .int .i64 most] w fun e w' => ∃ v, e = .returned (.tuple #[v, .int .i64 0]) ∧ Sl w' (fun g => w.heap.size ≤ g) v (inp.take most) ∧ SrcAt w' N b (inp.drop most) ∧ Kept (fun j => j = b) w w' := by
  have h5 := ta_dir_source
  have h6 := ta_source_source
  have hh := has_any tb fd hfd (thV 183 b) w hc rfl
  have hm1 : decide ((1 : Int) ≤ most) = true := by simp; omega
  have hm3 : decide ((most : Int) < 1) = false := by simp; omega
  obtain ⟨v, hb, hsl⟩ := hs
  have hblt := hb.lt
  have htl := World.block_lt_of_cell? _ _ hc0
  have hfn := fault_none k t last m w hk
  have hsn := short_none
  unfold thV at *
  unfold noFault at hfn hsn
  rcases hsl with ⟨rfl, rfl⟩ | ⟨g, o, c, rfl, hcap, hg, hN, hcell⟩
  · have hmin : min (most : Int) 0 = 0 := by omega
    have HB := Lib.hid hb
    have HK := Lib.hid hk
    clear hb hk
    go_enter Tryz.func254, Tryz.ntmps254
    go_wp2_with fail
    refine hh.mono ?_
    rintro e w' ⟨rfl, rfl⟩
    clear hh
    go_wp2_with fail
    refine hfn.mono ?_
    rintro e w1 ⟨rfl, hb1⟩
    have hb2 : Below w'.heap.size w' (w1.alloc (.cells #[.int .i64 0, .int .i64 0] 162)) := hb1.alloc hb1.size _
    have hn := Blk.new w1 #[.int .i64 0, .int .i64 0] 162
    have n0 := hn.cell 0 (v := .int .i64 0) rfl
    have n1 := hn.cell 1 (v := .int .i64 0) rfl
    have f0 := hn.free 0
    have f1 := hn.free 1
    have hB2 := HB.out.keep hb2 hblt
    have c0 := hB2.cell 0 (v := .slice none 0 0) rfl
    have HB2 := Lib.hid hB2
    have HBB := Lib.hid hb2
    have hlb := hb1.size
    clear hb2 hB2
    go_wp2_with fail
    obtain ⟨w2, hw2⟩ : ∃ w2, (w1.alloc (.cells #[.int .i64 0, .int .i64 0] 162)) = w2 := ⟨_, rfl⟩
    rw [hw2] at n0 n1 c0 HB2 HBB hn ⊢
    have hsz : w1.heap.size < w2.heap.size := hn.lt
    have HN := Lib.hid hn
    clear hn f0 f1 hw2
    go_region_held3 (fun w' => w'.cell? ⟨b, 0, none⟩ = some (.slice none 0 0) ∧ w'.cell? ⟨w1.heap.size, 0, none⟩ = some (.int .i64 0) ∧ w'.cell? ⟨w1.heap.size, 1, none⟩ = some (.int .i64 0)) (first | go_keep | (exact ⟨HT0.out, HT1.out, HT2.out⟩))
      ((go_at_call 283; refine (hsn _ _).mono ?_; rintro e w4 ⟨rfl, hb4⟩; have HT0 := Lib.hid ((hb4.cell (p := ⟨b, 0, none⟩) HB2.out.lt).trans c0); have HT1 := Lib.hid ((hb4.cell (p := ⟨w1.heap.size, 0, none⟩) hsz).trans n0); have HT2 := Lib.hid ((hb4.cell (p := ⟨w1.heap.size, 1, none⟩) hsz).trans n1); have HB4 := Lib.hid hb4; clear hb4))
    have HB5 := Lib.hid (HB2.out.drew.keep HB4.out HB2.out.drew.lt)
    have h00 := HT0.out
    go_wp2_with fail
    refine (Any.bytes_Clone_nil Tryz.laysSlK4 0 0 _).mono ?_
    rintro e w5 ⟨rfl, rfl⟩
    have z0 := HB5.out.free 0
    go_wp2_with fail
    go_ret2
    refine ⟨_, rfl, .inl ⟨by simp, rfl⟩, ⟨_, HB5.out.set 0 (.slice none 0 0), .inl ⟨by simp, rfl⟩⟩, ?_⟩
    exact Kept.setCell (S := fun j => j = b) ((Kept.of_below HBB.out).trans ((Kept.of_below (below_drew2 w2)).trans (Kept.of_below HB4.out))) (.inl rfl) 0 _
  · obtain ⟨n, hn, hmin⟩ : ∃ n : Nat, n = min most inp.length ∧ min (most : Int) inp.length = n := ⟨_, rfl, by omega⟩
    have hnl0 : n ≤ inp.length := by omega
    have hnl : (n : Int) ≤ c := by omega
    have hn0 : (0 : Int) ≤ n := by omega
    have hnn : (n : Int) ≤ inp.length := by omega
    have HB := Lib.hid hb
    have HK := Lib.hid hk
    have HC := Lib.hid hcell
    have HN := Lib.hid hn
    clear hb hk hcell hn
    go_enter Tryz.func254, Tryz.ntmps254
    go_wp2_with fail
    refine hh.mono ?_
    rintro e w' ⟨rfl, rfl⟩
    clear hh
    go_wp2_with fail
    refine hfn.mono ?_
    rintro e w1 ⟨rfl, hb1⟩
    have hb2 : Below w'.heap.size w' (w1.alloc (.cells #[.int .i64 0, .int .i64 0] 162)) := hb1.alloc hb1.size _
    have hN1 := Blk.new w1 #[.int .i64 0, .int .i64 0] 162
    have n0 := hN1.cell 0 (v := .int .i64 0) rfl
    have n1 := hN1.cell 1 (v := .int .i64 0) rfl
    have f0 := hN1.free 0
    have f1 := hN1.free 1
    have hB2 := HB.out.keep hb2 hblt
    have c0 := hB2.cell 0 (v := .slice (some ⟨g, o, none⟩) inp.length c) rfl
    have HB2 := Lib.hid hB2
    have HBB := Lib.hid hb2
    have hlb := hb1.size
    clear hb2 hB2
    go_wp2_with fail
    obtain ⟨w2, hw2⟩ : ∃ w2, (w1.alloc (.cells #[.int .i64 0, .int .i64 0] 162)) = w2 := ⟨_, rfl⟩
    rw [hw2] at n0 n1 c0 HB2 HBB hN1 ⊢
    have hsz : w1.heap.size < w2.heap.size := hN1.lt
    clear hN1 f0 f1 hw2
    go_region_held3 (fun w' => w'.cell? ⟨b, 0, none⟩ = some (.slice (some ⟨g, o, none⟩) inp.length c) ∧ w'.cell? ⟨w1.heap.size, 0, none⟩ = some (.int .i64 0) ∧ w'.cell? ⟨w1.heap.size, 1, none⟩ = some (.int .i64 0)) (first | go_keep | (exact ⟨HT0.out, HT1.out, HT2.out⟩))
      ((go_at_call 283; refine (hsn _ _).mono ?_; rintro e w4 ⟨rfl, hb4⟩; have HT0 := Lib.hid ((hb4.cell (p := ⟨b, 0, none⟩) HB2.out.lt).trans c0); have HT1 := Lib.hid ((hb4.cell (p := ⟨w1.heap.size, 0, none⟩) hsz).trans n0); have HT2 := Lib.hid ((hb4.cell (p := ⟨w1.heap.size, 1, none⟩) hsz).trans n1); have HB4 := Lib.hid hb4; clear hb4))
    have HB5 := Lib.hid (HB2.out.drew.keep HB4.out HB2.out.drew.lt)
    have hb6 : Below w'.heap.size w' w4 := HBB.out.trans (((below_drew2 w2).mono HBB.out.size).trans (HB4.out.mono (by have := HBB.out.size; simpa using this)))
    have hcell4 : ∀ i, i < inp.length → w4.cell? ⟨g, o + i, none⟩ = some (.int .u8 (inp.getD i 0).toNat) := fun i hi => (hb6.cell (p := ⟨g, o + i, none⟩) hg).trans (HC.out i hi)
    have hg4 : g < w4.heap.size := Nat.lt_of_lt_of_le hg hb6.size
    have hbs : Bs w4 (some ⟨g, o, none⟩) (inp.take n) := fun _ => ⟨g, o, rfl, fun i hi => by
      have hi' : i < n := by simp at hi; omega
      rw [getD_take _ _ _ hi']
      exact hcell4 i (by omega)⟩
    have hcl := clone_bytes (some ⟨g, o, none⟩) (inp.take n) c w4 hbs (by simp; omega)
    rw [show (inp.take n).length = n by simp; omega] at hcl
    have HS4 := Lib.hid (Sl.part (N := N) (c := c - n) hcell4 hg4 hN n (inp.length - n) (by omega) (by omega))
    have H6 := Lib.hid hb6
    have h00 := HT0.out
    clear hcell4 hbs hb6
    go_wp2_with fail
    refine hcl.mono ?_
    rintro e w5 ⟨v5, rfl, ho5, hb5⟩
    have hB7 := HB5.out.keep hb5 HB5.out.lt
    have c7 := hB7.cell 0 (v := .slice (some ⟨g, o, none⟩) inp.length c) rfl
    have z7 := hB7.free 0
    have H7 := Lib.hid hB7
    have H8 := Lib.hid ho5
    have H9 := Lib.hid hb5
    clear hB7 ho5 hb5 hcl
    have ht : inp.take most = inp.take n := by
      have := HN.out
      rcases Nat.le_total most inp.length with h | h
      · rw [show n = most by omega]
      · rw [show n = inp.length by omega, List.take_of_length_le h, List.take_of_length_le (Nat.le_refl _)]
    have hd : inp.drop most = (inp.drop n).take (inp.length - n) := by
      have := HN.out
      rw [List.take_of_length_le (by simp)]
      rcases Nat.le_total most inp.length with h | h
      · rw [show n = most by omega]
      · rw [show n = inp.length by omega, List.drop_of_length_le h, List.drop_of_length_le (Nat.le_refl _)]
    have hk5 : Kept (fun j => j = b) w' w5 := (Kept.of_below H6.out).trans (Kept.of_below H9.out)
    have hl : (inp.take n).length = n := by simp; omega
    have FIN : ∀ vv, Sl w5 N vv ((inp.drop n).take (inp.length - n)) → ∃ v, Ending.returned (.tuple #[v5, .int .i64 0]) = .returned (.tuple #[v, .int .i64 0]) ∧ Sl (w5.setCell ⟨b, 0, none⟩ vv) (fun g => w'.heap.size ≤ g) v (inp.take most) ∧ SrcAt (w5.setCell ⟨b, 0, none⟩ vv) N b (inp.drop most) ∧ Kept (fun j => j = b) w' (w5.setCell ⟨b, 0, none⟩ vv) := by
      intro vv hvv
      rw [ht, hd]
      refine ⟨v5, rfl, ?_, ⟨_, H7.out.set 0 _, ?_⟩, hk5.setCell (.inl rfl) 0 _⟩
      · have h := Sl.own (xs := inp.take n) (by rw [hl]; exact H8.out)
        refine (h.mono (fun g hg hN => ?_)).kept ((Kept.refl (fun j => j = b) _).setCell (.inl rfl) 0 _) fun g hg hN => ?_
        · have := H6.out.size; have := hN.1; exact (by omega : w'.heap.size ≤ g)
        · rintro rfl; exact absurd hblt (by simpa using hN)
      · refine hvv.kept ((Kept.refl (fun j => j = b) _).setCell (.inl rfl) 0 _) fun g hg hN => ?_
        rintro rfl
        exact hNb hN
    have HF := Lib.hid FIN
    have H10 := Lib.hid (HS4.out.below H9.out)
    have hg5 : g < w5.heap.size := Nat.lt_of_lt_of_le hg4 H9.out.size
    have hcap0 := hcap
    clear ht hd hk5 FIN hl
    go_wp2_with fail
    · rename_i hcn
      go_ret2
      refine HF.out _ (.inr ⟨g, o, 0, ?_, ?_, hg5, hN, ?_⟩)
      · simp
      · simp; omega
      · intro i hi; simp at hi; omega
    · go_ret2
      exact HF.out _ H10.out

end Go.Proofs.YtjdcjdclipbjhaaGreatDoor
