/-
  Texts of this seat put together: W25, QLaw, W26, W27.
-/
import Derived.Test.YthdkbbkkijdhfaaGreatDoorH13
import Derived.Test.YthdkbbkkijdhfaaGreatDoorH4
import Derived.BigRegion

/-
  The walk of Literal. Condition: the text is shorter than 2^30 bytes; the library's variables hold what they hold.
-/
namespace Go.Proofs.YthdkbbkkijdhfaaGreatDoor
open Go.RowKit Go.Shelf Go.Maps

/-- The node of a text alone. -/
def litNd (fold : Bool) (s : Rx.Bytes) : Rx.Nd := Rx.joinN .cat (s.map (Rx.one fold))

set_option maxHeartbeats 3200000 in
set_option maxRecDepth 100000 in
theorem Literal_any (s : Rx.Bytes) (fold : Bool) (w : World) (hg : Glo w) (h8 : 8 ≤ w.heap.size) (hl : s.length < 1073741824) :
    Calls Tryz.prog 14 #[.string ⟨s.toArray⟩, .bool fold] w fun e w' => (∃ q, e = .returned (.pointer (some ⟨q, 0, none⟩)) ∧ ReAt w' w.heap.size q (litNd fold s)) ∧ Below w.heap.size w w' := by
  have hk : Kept (fun _ => False) w (w.alloc (.cells #[.string ⟨#[]⟩, .bool false, .bool fold] 73)) := (Kept.refl _ _).alloc _
  have hsz : (w.alloc (.cells #[.string ⟨#[]⟩, .bool false, .bool fold] 73)).heap.size = w.heap.size + 1 := by simp
  have hr : Rd (w.alloc (.cells #[.string ⟨#[]⟩, .bool false, .bool fold] 73)) w.heap.size [] false fold :=
    ⟨Blk.new _ _ _, hg.kept hk (fun _ h => h.elim) h8, h8, by decide⟩
  obtain ⟨i0, hi, hz0, hz1, hz2⟩ := info_parts info_node
  go_enter Tryz.func14, Tryz.ntmps14
  go_wp2_with fail
  generalize w.alloc (.cells #[.string ⟨#[]⟩, .bool false, .bool fold] 73) = w1 at *
  have hrlt := hr.lt
  have G0 : Go1 w1 w1 w.heap.size [] false fold := ⟨hr, Kept.refl _ _⟩
  have HR := Lib.hid hr
  clear hr
  go_loopw [6, 7, 13] (fun x6 _x7 x13 wr => ∃ (i : Nat) (ps : List Nat), i ≤ s.length ∧ x13 = .int .i64 i ∧ NdsAt wr w1.heap.size x6 ((s.take i).map (Rx.one fold)) ps ∧ Go1 w1 wr w.heap.size [] false fold ∧ Below w.heap.size w wr) (fun _ _ x13 _ => s.length - (intOf x13).toNat)
  case atStart => exact ⟨0, [], Nat.zero_le _, rfl, NdsAt.nil _ _, G0, hk.below⟩
  case round =>
    clear G0
    obtain ⟨i, ps, hi', rfl, hnds, G, hbw⟩ := hrel
    by_cases hlt : i < s.length
    · have hone := one_any w.heap.size s[i] [] false fold _ G.rd.at_
      have HTK : Hid ((s.take (i + 1)).map (Rx.one fold) = (s.take i).map (Rx.one fold) ++ [Rx.one fold s[i]]) := by
        show _ = _
        rw [List.take_succ_eq_append_getElem hlt, List.map_append]
        rfl
      have hpl : ps.length = i := by rw [hnds.len, List.length_map, List.length_take]; omega
      have HND := Lib.hid hnds
      have HBW := Lib.hid hbw
      clear hnds hbw
      generalize (s.take i).map (Rx.one fold) = Li at *
      go_wp2_with fail
      refine hone.mono ?_
      rintro e w3 ⟨rfl, hb3, hbl3⟩
      have hnd3 := HND.out.kept (Kept.of_below (S := fun _ => False) hbl3) (fun _ _ h => h)
      have hown := hnd3.own
      have G3 : Go1 w1 w3 w.heap.size [] false fold := G.go (G.rd.at_.keep hbl3 G.rd.lt) (Kept.of_below hbl3) (Nat.le_refl _)
      have hszr := HBW.out.size
      have HB3 : Hid (Below w.heap.size w w3) := HBW.out.trans (hbl3.mono hszr)
      have hw13 := G.kept.size
      have hszr3 := hbl3.size
      have hnew : NdIn w3 (fun b => w1.heap.size ≤ b ∧ u6.ownBlock ≠ some b) wr.heap.size (Rx.one fold s[i]) := .set ⟨hw13, fun e => by
        have := (HND.out.own.lt _ e).2
        omega⟩ hb3
      have HOB : Hid (∀ k, u6.ownBlock = some k → w1.heap.size ≤ k) := fun k e => (hown.lt k e).1
      have HND3 := Lib.hid hnd3
      have HNEW := Lib.hid hnew
      clear hnd3 hnew hb3 hbl3 hone G
      go_wp2_with (at_builtin; refine wpList_append_own_at _ rfl _ _ 74 rfl w1.heap.size 45 i0 (.pointer none) 1 8 Tryz.underlying74 hi hz0 hz1 hz2 rfl (by decide) _ _ _ rfl (hown.alloc _) ⟨w3.heap.size, 0, none⟩ 1 1 [ptrV wr.heap.size] rfl rfl (cell_one_new _ _ _) (by simp [ptrV, Value.oneCell']) (by unfold maxLen; omega) (by omega) (by simp; omega) ?_; intro v' w5 hown' hgrow _ hv')
      have hgrow : (w3.alloc (.cells #[ptrV wr.heap.size] 45)).grownBy w5 u6.ownBlock := hgrow
      have hv' : v'.ownBlock = u6.ownBlock ∨ v'.ownBlock = some (w3.alloc (.cells #[ptrV wr.heap.size] 45)).heap.size := hv'
      have G5 := G3.pushed hgrow HOB.out hrlt
      have hb5 : Below w.heap.size w w5 := ((Kept.of_below (S := fun _ => False) HB3.out).pushed hgrow (fun k e => by have := HOB.out k e; omega)).below
      refine ⟨⟨i + 1, ps ++ [wr.heap.size], by omega, by go_num, ?_, G5, hb5⟩, ?_⟩
      · rw [HTK.out]
        exact HND3.out.push HNEW.out hown' hgrow hv'
      · show s.length - ((i : Int) + 1).toNat < s.length - (i : Int).toNat
        omega
    · obtain rfl : i = s.length := by omega
      rw [List.take_of_length_le (Nat.le_refl _)] at hnds
      have hj := join_any 4 .cat .cat _ _ ps w1.heap.size _ hnds G.kept.size (by rw [List.length_map]; omega)
      have HBW := Lib.hid hbw
      clear hnds hbw
      go_wp2_with fail
      refine hj.mono ?_
      rintro e w3 ⟨⟨p, rfl, hn⟩, hb3⟩
      go_wp2_with fail
      go_ret
      have hb4 := HBW.out.trans (hb3.mono HBW.out.size)
      refine ⟨⟨w3.heap.size, rfl, p, Blk.new _ _ _, hb4.size, (hn.kept ((Kept.refl (fun _ => False) _).alloc _) fun _ _ h => h).mono fun k hk => by omega⟩, hb4.alloc hb4.size _⟩

end Go.Proofs.YthdkbbkkijdhfaaGreatDoor

/-
  The plain law of RegexQuotes: a text of which each byte that is no letter and no digit stands behind a backslash is read as the text alone. No program in sight.
-/
namespace Go.Proofs.YthdkbbkkijdhfaaGreatDoor.Rx
open Go

def rawY (c : UInt8) : Bool := alnum c || (c == 40 || c == 41 || c == 123 || c == 125)
def encX : Bytes → Bytes
  | [] => []
  | c :: r => (if alnum c then [c] else [92, c]) ++ encX r
def encY : Bytes → Bytes
  | [] => []
  | c :: r => (if rawY c then [c] else [92, c]) ++ encY r

theorem u8_all {p : UInt8 → Prop} (h : ∀ n : Nat, n < 256 → p (UInt8.ofNat n)) (c : UInt8) : p c := by
  have := h c.toNat c.toNat_lt
  rwa [UInt8.ofNat_toNat] at this

theorem alnum_not : ∀ c : UInt8, alnum c = true → c ≠ 40 ∧ c ≠ 91 ∧ c ≠ 46 ∧ c ≠ 94 ∧ c ≠ 36 ∧ c ≠ 92 ∧ c ≠ 42 ∧ c ≠ 43 ∧ c ≠ 63 ∧ c ≠ 123 ∧ c ≠ 124 ∧ c ≠ 41 ∧ c ≠ 125 := by
  have h : ∀ c : UInt8, (!alnum c || (c != 40 && c != 91 && c != 46 && c != 94 && c != 36 && c != 92 && c != 42 && c != 43 && c != 63 && c != 123 && c != 124 && c != 41 && c != 125)) = true :=
    u8_all (p := fun c => (!alnum c || (c != 40 && c != 91 && c != 46 && c != 94 && c != 36 && c != 92 && c != 42 && c != 43 && c != 63 && c != 123 && c != 124 && c != 41 && c != 125)) = true) (by decide +kernel)
  intro c hc
  have := h c
  rw [hc] at this
  simpa [and_assoc] using this

theorem takeNone {k : UInt8} {t s : Bytes} (h : s.head? ≠ some k) : take (k :: t) s = none := by
  unfold take
  cases s with
  | nil => simp
  | cons d r =>
    have h1 : ¬ k = d := fun e => h (by simp [e])
    simp [List.isPrefixOf, h1]
theorem takeTwoNone {k l : UInt8} {s : Bytes} (h : ∀ r, s ≠ k :: l :: r) : take [k, l] s = none := by
  unfold take
  rcases s with _ | ⟨a, _ | ⟨b, r⟩⟩
  · simp
  · simp [List.isPrefixOf]
  · have h1 : ¬ (k = a ∧ l = b) := fun e => h r (by rw [e.1, e.2])
    have h2 : ([k, l] : Bytes).isPrefixOf (a :: b :: r) = false := by
      rw [Bool.eq_false_iff]
      intro e
      simp [List.isPrefixOf] at e
      exact h1 e
    rw [h2]; rfl
theorem takeOne (k : UInt8) (s : Bytes) : take [k] (k :: s) = some s := by simp [take]

theorem headX (s : Bytes) (k : UInt8) (hk : alnum k = false) (h92 : k ≠ 92) : (encX s).head? ≠ some k := by
  cases s with
  | nil => simp [encX]
  | cons c r =>
    unfold encX
    by_cases h : alnum c = true
    · rw [if_pos h]
      intro e
      simp at e
      rw [e, hk] at h; cases h
    · rw [if_neg h]
      intro e
      simp at e
      exact h92 e.symm
theorem headY (s : Bytes) (k : UInt8) (hk : rawY k = false) (h92 : k ≠ 92) : (encY s).head? ≠ some k := by
  cases s with
  | nil => simp [encY]
  | cons c r =>
    unfold encY
    by_cases h : rawY c = true
    · rw [if_pos h]
      intro e
      simp at e
      rw [e, hk] at h; cases h
    · rw [if_neg h]
      intro e
      simp at e
      exact h92 e.symm
/-- Behind a backslash stands none of some. -/
theorem secondY (s : Bytes) (k : UInt8) (hk : rawY k = true) : ∀ r, encY s ≠ 92 :: k :: r := by
  intro r e
  cases s with
  | nil => simp [encY] at e
  | cons c t =>
    unfold encY at e
    by_cases h : rawY c = true
    · rw [if_pos h] at e
      simp at e
      rw [e.1] at h
      revert h; decide
    · rw [if_neg h] at e
      simp at e
      rw [e.1, hk] at h; exact h rfl

theorem timesX (s : Bytes) : times true (encX s) = some (none, encX s) := by
  have h1 := takeNone (t := []) (headX s 42 (by decide) (by decide))
  have h2 := takeNone (t := []) (headX s 43 (by decide) (by decide))
  have h3 := takeNone (t := []) (headX s 63 (by decide) (by decide))
  have h4 := takeNone (t := []) (headX s 123 (by decide) (by decide))
  simp [times, h1, h2, h3, h4]
theorem timesY (s : Bytes) : times false (encY s) = some (none, encY s) := by
  have h1 := takeNone (t := []) (headY s 42 (by decide) (by decide))
  have h4 := takeTwoNone (secondY s 123 (by decide))
  simp [times, h1, h4]

theorem atomX (fold : Bool) (f : Nat) (c : UInt8) (r : Bytes) : atom fold (f + 1) ((if alnum c then [c] else [92, c]) ++ encX r) = some (one fold c, encX r) := by
  by_cases h : alnum c = true
  · rw [if_pos h]
    obtain ⟨a1, a2, a3, a4, a5, a6, a7, a8, a9, a10, -⟩ := alnum_not c h
    simp [atom, a1, a2, a3, a4, a5, a6, a7, a8, a9, a10]
  · rw [if_neg h]
    simp only [List.cons_append, List.nil_append]
    rw [atom.eq_def]
    simp [escaped, h]

theorem branchX (fold : Bool) (s : Bytes) : ∀ f, 3 * (encX s).length + 2 ≤ f → branch fold f (encX s) = some (s.map (one fold), []) := by
  induction s with
  | nil =>
    intro f hf
    obtain ⟨g, rfl⟩ : ∃ g, f = g + 1 := ⟨f - 1, by omega⟩
    simp [encX, branch]
  | cons c r ih =>
    intro f hf
    have hlen : (encX (c :: r)).length = (if alnum c then [c] else [92, c]).length + (encX r).length := by rw [encX]; simp
    have hl1 : 1 ≤ (if alnum c then [c] else [92, c]).length := by split <;> simp
    obtain ⟨g, rfl⟩ : ∃ g, f = g + 2 := ⟨f - 2, by omega⟩
    have h1 := headX (c :: r) 124 (by decide) (by decide)
    have h2 := headX (c :: r) 41 (by decide) (by decide)
    have h0 : encX (c :: r) ≠ [] := fun e => by rw [e] at hlen; simp at hlen; omega
    have ha := atomX fold g c r
    rw [show (if alnum c then [c] else [92, c]) ++ encX r = encX (c :: r) from rfl] at ha
    rw [branch.eq_def]
    simp only []
    rw [if_neg (by rintro (h | h | h); exact h0 h; exact h1 h; exact h2 h), ha]
    simp only [piece, timesX]
    rw [ih (g + 1) (by omega)]
    rfl

theorem readX (fold : Bool) (s : Bytes) (h0 : s ≠ []) : read (encX s) true fold = some (joinN .cat (s.map (one fold))) := by
  unfold read
  rw [if_pos rfl]
  obtain ⟨g, hg⟩ : ∃ g, 3 * (encX s).length + 4 = g + 1 := ⟨_, rfl⟩
  rw [hg, branches.eq_def]
  simp only []
  rw [branchX fold s g (by omega)]
  cases s with
  | nil => exact absurd rfl h0
  | cons c r =>
    simp only [List.map_cons]
    rw [takeNone (by simp)]
    rfl

theorem plainY (fold : Bool) (f : Nat) (c : UInt8) (r : Bytes) : plain fold (f + 1) ((if rawY c then [c] else [92, c]) ++ encY r) = some (one fold c, encY r) := by
  rw [plain.eq_def]
  simp only []
  have e0 : encY (c :: r) = (if rawY c then [c] else [92, c]) ++ encY r := rfl
  rw [← e0]
  rw [takeTwoNone (secondY (c :: r) 40 (by decide)), takeNone (headY (c :: r) 91 (by decide) (by decide)), takeNone (headY (c :: r) 46 (by decide) (by decide))]
  simp only []
  rw [e0]
  by_cases h : rawY c = true
  · rw [if_pos h]
    have h92 : c ≠ 92 := by rintro rfl; revert h; decide
    simp only [List.cons_append, List.nil_append]
    rw [takeNone (by simpa using h92)]
  · rw [if_neg h]
    simp only [List.cons_append, List.nil_append, takeOne]
    unfold rawY at h
    simp only [Bool.or_eq_true, not_or, beq_iff_eq, Bool.not_eq_true] at h
    obtain ⟨h1, ⟨⟨h2, h3⟩, h4⟩, h5⟩ := h
    simp [escaped, h1, h3, h4, h5]

theorem piecesY (fold : Bool) (s : Bytes) : ∀ f free, 3 * (encY s).length + 2 ≤ f → pieces fold f free (encY s) = some (s.map (one fold), []) := by
  induction s with
  | nil =>
    intro f free hf
    obtain ⟨g, rfl⟩ : ∃ g, f = g + 1 := ⟨f - 1, by omega⟩
    simp [encY, pieces]
  | cons c r ih =>
    intro f free hf
    have hlen : (encY (c :: r)).length = (if rawY c then [c] else [92, c]).length + (encY r).length := by rw [encY]; simp
    have hl1 : 1 ≤ (if rawY c then [c] else [92, c]).length := by split <;> simp
    obtain ⟨g, rfl⟩ : ∃ g, f = g + 2 := ⟨f - 2, by omega⟩
    have h0 : encY (c :: r) ≠ [] := fun e => by rw [e] at hlen; simp at hlen; omega
    have h1 : ([92, 41] : Bytes).isPrefixOf (encY (c :: r)) = false := by
      have := takeTwoNone (secondY (c :: r) 41 (by decide))
      unfold take at this
      split at this
      · cases this
      · rename_i h; exact Bool.eq_false_iff.2 h
    have h36 := headY (c :: r) 36 (by decide) (by decide)
    have h2 : ([36, 92, 41] : Bytes).isPrefixOf (encY (c :: r)) = false := by
      have := takeNone (t := [92, 41]) h36
      unfold take at this
      split at this
      · cases this
      · rename_i h; exact Bool.eq_false_iff.2 h
    have h42 := headY (c :: r) 42 (by decide) (by decide)
    have ha := plainY fold g c r
    rw [show (if rawY c then [c] else [92, c]) ++ encY r = encY (c :: r) from rfl] at ha
    rw [pieces.eq_def]
    simp only []
    rw [if_neg (by rintro (h | h); exact h0 h; rw [h1] at h; cases h), if_neg (by rintro (h | h); rw [h] at h36; exact h36 rfl; rw [h2] at h; cases h), if_neg (fun h => h42 h.1), ha]
    simp only [piece, timesY]
    rw [ih (g + 1) false (by omega)]
    rfl

theorem readY (fold : Bool) (s : Bytes) : read (encY s) false fold = some (joinN .cat (s.map (one fold))) := by
  unfold read
  rw [if_neg (by decide)]
  obtain ⟨g, hg⟩ : ∃ g, 3 * (encY s).length + 4 = g + 1 := ⟨_, rfl⟩
  rw [hg, basic.eq_def]
  simp only []
  rw [takeNone (headY s 94 (by decide) (by decide))]
  simp only []
  rw [piecesY fold s g true (by omega)]
  rfl

theorem sizes_ones (fold : Bool) (s : Bytes) : ∀ a, a + s.length ≤ 20000 → sizes (s.map (one fold)) a = a + s.length := by
  induction s with
  | nil => intro a _; simp [sizes]
  | cons c r ih =>
    intro a ha
    simp only [List.length_cons] at ha
    have h1 : (one fold c).size = 1 := by simp [one, Nd.size]
    simp only [List.map_cons, sizes, h1, List.length_cons]
    rw [Nat.min_eq_right (by omega), ih (a + 1) (by omega)]
    omega

theorem lit_size (fold : Bool) (s : Bytes) (h : s.length ≤ 2000) : (joinN .cat (s.map (one fold))).size ≤ 10000 := by
  rcases s with _ | ⟨c, _ | ⟨d, r⟩⟩
  · simp [joinN, Nd.size]
  · simp [joinN, one, Nd.size]
  · have := sizes_ones fold (c :: d :: r) 0 (by omega)
    show (Nd.cat ((c :: d :: r).map (one fold))).size ≤ 10000
    simp only [Nd.size]
    rw [this]
    omega

theorem tellX (fold : Bool) (s : Bytes) (h0 : s ≠ []) (h : s.length ≤ 2000) : tellOf (encX s) true fold = some (joinN .cat (s.map (one fold))).told := by
  unfold tellOf
  rw [readX fold s h0]
  simp only []
  rw [if_neg (by have := lit_size fold s h; omega)]
theorem tellY (fold : Bool) (s : Bytes) (h : s.length ≤ 2000) : tellOf (encY s) false fold = some (joinN .cat (s.map (one fold))).told := by
  unfold tellOf
  rw [readY fold s]
  simp only []
  rw [if_neg (by have := lit_size fold s h; omega)]

end Go.Proofs.YthdkbbkkijdhfaaGreatDoor.Rx

/-
  The walk of RegexQuotes. Conditions: the text is shorter than 2^30 bytes; the library's variables hold what they hold.
-/
namespace Go.Proofs.YthdkbbkkijdhfaaGreatDoor
open Go.RowKit Go.Shelf Go.Maps

theorem word_alnum (c : UInt8) : Rx.alnum c = ((decide ((48 : Int) ≤ c.toNat) && decide ((c.toNat : Int) ≤ 57)) || (decide ((97 : Int) ≤ c.toNat) && decide ((c.toNat : Int) ≤ 122)) || (decide ((65 : Int) ≤ c.toNat) && decide ((c.toNat : Int) ≤ 90))) := by
  have h : ∀ n : Nat, n < 256 → Rx.alnum (UInt8.ofNat n) = ((decide (48 ≤ n) && decide (n ≤ 57)) || (decide (97 ≤ n) && decide (n ≤ 122)) || (decide (65 ≤ n) && decide (n ≤ 90))) := by decide +kernel
  have := h c.toNat c.toNat_lt
  rw [UInt8.ofNat_toNat] at this
  rw [this]
  have e1 : ∀ a b : Nat, decide (a ≤ b) = decide ((a : Int) ≤ (b : Int)) := fun a b => by congr 1; apply propext; omega
  simp only [e1]
  rfl

theorem encX_append (a b : Rx.Bytes) : Rx.encX (a ++ b) = Rx.encX a ++ Rx.encX b := by
  induction a with
  | nil => rfl
  | cons c r ih => simp only [List.cons_append, Rx.encX, ih, List.append_assoc]
theorem encY_append (a b : Rx.Bytes) : Rx.encY (a ++ b) = Rx.encY a ++ Rx.encY b := by
  induction a with
  | nil => rfl
  | cons c r ih => simp only [List.cons_append, Rx.encY, ih, List.append_assoc]
theorem encX_len (a : Rx.Bytes) : (Rx.encX a).length ≤ 2 * a.length := by
  induction a with
  | nil => simp [Rx.encX]
  | cons c r ih =>
    simp only [Rx.encX, List.length_append, List.length_cons]
    split <;> simp <;> omega
theorem encY_len (a : Rx.Bytes) : (Rx.encY a).length ≤ 2 * a.length := by
  induction a with
  | nil => simp [Rx.encY]
  | cons c r ih =>
    simp only [Rx.encY, List.length_append, List.length_cons]
    split <;> simp <;> omega

theorem conv_one (c : UInt8) (W : World) : (convert 22 9 (.slice (some ⟨W.heap.size, 0, none⟩) 1 1)).run Tryz.prog (W.alloc (.cells #[.int .u8 c.toNat] 5)) = .ok (.string ⟨#[c]⟩) (W.alloc (.cells #[.int .u8 c.toNat] 5)) := by
  refine conv_tail (xs := [c]) (fun i hi => ?_) 1
  obtain rfl : i = 0 := by simpa using hi
  exact (Blk.new W #[.int .u8 c.toNat] 5).cell 0 rfl

set_option maxHeartbeats 6400000 in
set_option maxRecDepth 100000 in
theorem RegexQuotes_any (s : Rx.Bytes) (fold : Bool) (w : World) (hg : Glo w) (h8 : 8 ≤ w.heap.size) (hl : s.length < 1073741824) :
    Calls Tryz.prog 6 #[.string ⟨s.toArray⟩, .bool fold] w fun e w' => e = .returned (.bool true) ∧ Below w.heap.size w w' := by
  have hawake := awake_any w hg h8
  have HG := Lib.hid hg
  clear hg
  go_enter Tryz.func6, Tryz.ntmps6
  go_wp2_with fail
  refine hawake.mono ?_
  rintro e w1 ⟨rfl, hb1⟩
  clear hawake
  by_cases hbig : 2000 < s.length
  · have hbig2 : (2000 : Int) < (s.length : Int) := by omega
    clear hbig
    go_wp2_with fail
    go_ret
    exact ⟨rfl, hb1⟩
  · have hbig2 : ¬ (2000 : Int) < (s.length : Int) := by omega
    have hs2 : s.length ≤ 2000 := by omega
    have hcd0 : decide ((2000 : Int) < (s.length : Int)) = false := by simp; omega
    clear hbig
    go_wp2_with fail
    go_loopw [6, 7, 8, 9, 10, 11] (fun x6 x7 x8 _ _ _ wr => ∃ i : Nat, i ≤ s.length ∧ x8 = .int .i64 i ∧ x6 = .string ⟨(Rx.encX (s.take i)).toArray⟩ ∧ x7 = .string ⟨(Rx.encY (s.take i)).toArray⟩ ∧ Below w.heap.size w wr) (fun _ _ x8 _ _ _ _ => s.length - (intOf x8).toNat)
    case atStart => exact ⟨0, Nat.zero_le _, rfl, rfl, rfl, hb1⟩
    case round =>
      clear hb1
      obtain ⟨i, hi, rfl, rfl, rfl, hbw⟩ := hrel
      by_cases hlt : i < s.length
      · have hxl := encX_len (s.take i)
        have hyl := encY_len (s.take i)
        have htl : (s.take i).length ≤ 2000 := by rw [List.length_take]; omega
        have HTX : Hid (Rx.encX (s.take (i + 1)) = Rx.encX (s.take i) ++ Rx.encX [s[i]]) := by
          show _ = _
          rw [List.take_succ_eq_append_getElem hlt, encX_append]
        have HTY : Hid (Rx.encY (s.take (i + 1)) = Rx.encY (s.take i) ++ Rx.encY [s[i]]) := by
          show _ = _
          rw [List.take_succ_eq_append_getElem hlt, encY_append]
        have hxl2 : (Rx.encX (s.take i)).length ≤ 4000 := by omega
        have hyl2 : (Rx.encY (s.take i)).length ≤ 4000 := by omega
        clear hxl hyl htl
        generalize Rx.encX (s.take i) = X at *
        generalize Rx.encY (s.take i) = Y at *
        have hcd : decide ((i : Int) < (s.length : Int)) = true := by simp; omega
        have eb : ∀ h, (⟨s.toArray⟩ : ByteArray)[i]'h = s[i] := fun h => rfl
        go_upto_region 10 with fail
        clear eb
        generalize s[i] = c at *
        have hbd := u8_bd c
        go_cut [10, 31, 32, 33, 34, 35, 36, 37, 38, 39, 40, 41, 42, 43, 44, 45, 46, 47, 48, 49, 50, 51, 52] (fun s10 _ _ _ _ _ _ _ _ _ _ _ _ _ _ _ _ _ _ _ _ _ _ wx => s10 = .bool (Rx.alnum c) ∧ wx = wr)
        case first =>
          have HAL := Lib.hid (word_alnum c)
          go_wp2_with fail
          all_goals
            go_meet
            refine ⟨congrArg Value.bool ?_, rfl⟩
            rw [HAL.out]
            first | (simp [*]; done) | (simp [*]; omega)
        case rest =>
          obtain ⟨rfl, rfl⟩ := hcut
          have hcv := conv_one c
          go_upto_if 57 with fail
          have hb3 : Below w.heap.size w (wc.alloc (.cells #[.int .u8 c.toNat] 5)) := hbw.alloc hbw.size _
          clear hcv hbw
          generalize wc.alloc (.cells #[.int .u8 c.toNat] 5) = w3 at *
          have HTX2 : Hid (Rx.encX [c] = (if Rx.alnum c then [] else [92]) ++ [c]) := by
            show _ = _
            simp only [Rx.encX, List.append_nil]
            split <;> rfl
          have HTY2 : Hid (Rx.encY [c] = (if Rx.rawY c then [] else [92]) ++ [c]) := by
            show _ = _
            simp only [Rx.encY, List.append_nil]
            split <;> rfl
          go_cut [6, 7, 10, 57, 58, 59, 60, 61, 62, 63, 64, 65, 66, 67, 68, 69, 70, 71, 72, 73, 74, 75]  (fun s6 s7 _ _ _ _ _ _ _ _ _ _ _ _ _ _ _ _ _ _ _ _ wx => s6 = .string ⟨(X ++ (if Rx.alnum c then [] else [92])).toArray⟩ ∧ s7 = .string ⟨(Y ++ (if Rx.rawY c then [] else [92])).toArray⟩ ∧ wx = w3)
          case first =>
            cases hal : Rx.alnum c with
            | true =>
              have hry : Rx.rawY c = true := by unfold Rx.rawY; rw [hal]; rfl
              have HRY := Lib.hid hry
              have HAT := Lib.hid hal
              clear hry
              go_wp2_with fail
              go_meet
              refine ⟨?_, ?_, rfl⟩
              · rw [HAT.out, if_pos rfl, List.append_nil]
              · rw [HRY.out, if_pos rfl, List.append_nil]
            | false =>
              have e1 : (⟨X.toArray⟩ : ByteArray) ++ ⟨#[92]⟩ = ⟨(X ++ [92]).toArray⟩ := by apply ByteArray.ext; simp
              have e2 : (⟨Y.toArray⟩ : ByteArray) ++ ⟨#[92]⟩ = ⟨(Y ++ [92]).toArray⟩ := by apply ByteArray.ext; simp
              have HAL2 := Lib.hid hal
              have HRY : Hid (Rx.rawY c = (c == 40 || c == 41 || c == 123 || c == 125)) := by show _ = _; unfold Rx.rawY; rw [hal]; rfl
              by_cases q1 : c = 40
              · subst q1
                go_wp2_with fail
                go_meet
                exact ⟨by rw [HAL2.out]; simp, by rw [HRY.out]; simp, rfl⟩
              by_cases q2 : c = 41
              · subst q2
                go_wp2_with fail
                go_meet
                exact ⟨by rw [HAL2.out]; simp, by rw [HRY.out]; simp, rfl⟩
              by_cases q3 : c = 123
              · subst q3
                go_wp2_with fail
                go_meet
                exact ⟨by rw [HAL2.out]; simp, by rw [HRY.out]; simp, rfl⟩
              by_cases q4 : c = 125
              · subst q4
                go_wp2_with fail
                go_meet
                exact ⟨by rw [HAL2.out]; simp, by rw [HRY.out]; simp, rfl⟩
              have r1 : ¬ ((c.toNat : Int) = 40) := u8_ne q1
              have r2 : ¬ ((c.toNat : Int) = 41) := u8_ne q2
              have r3 : ¬ ((c.toNat : Int) = 123) := u8_ne q3
              have r4 : ¬ ((c.toNat : Int) = 125) := u8_ne q4
              have HRY2 : Hid (Rx.rawY c = false) := by show _ = _; rw [HRY.out]; simp [q1, q2, q3, q4]
              clear q1 q2 q3 q4
              go_wp2_with fail
              go_meet
              exact ⟨by rw [HAL2.out]; simp, by rw [HRY2.out]; simp, rfl⟩
          case rest =>
            obtain ⟨rfl, rfl, rfl⟩ := hcut
            have hp1 : (if Rx.alnum c then ([] : Rx.Bytes) else [92]).length ≤ 1 := by split <;> simp
            have hp2 : (if Rx.rawY c then ([] : Rx.Bytes) else [92]).length ≤ 1 := by split <;> simp
            generalize (if Rx.alnum c then ([] : Rx.Bytes) else [92]) = P1 at *
            generalize (if Rx.rawY c then ([] : Rx.Bytes) else [92]) = P2 at *
            have e1 : (⟨(X ++ P1).toArray⟩ : ByteArray) ++ ⟨#[c]⟩ = ⟨(X ++ P1 ++ [c]).toArray⟩ := by apply ByteArray.ext; simp
            have e2 : (⟨(Y ++ P2).toArray⟩ : ByteArray) ++ ⟨#[c]⟩ = ⟨(Y ++ P2 ++ [c]).toArray⟩ := by apply ByteArray.ext; simp
            have hx1 : (X ++ P1).length ≤ 5000 := by simp; omega
            have hx2 : (Y ++ P2).length ≤ 5000 := by simp; omega
            have EX : Hid (Rx.encX (s.take (i + 1)) = X ++ P1 ++ [c]) := by show _ = _; rw [HTX.out, HTX2.out, List.append_assoc]
            have EY : Hid (Rx.encY (s.take (i + 1)) = Y ++ P2 ++ [c]) := by show _ = _; rw [HTY.out, HTY2.out, List.append_assoc]
            clear HTX HTX2 HTY HTY2
            generalize X ++ P1 = X2 at *
            generalize Y ++ P2 = Y2 at *
            go_wp2_with fail
            refine ⟨⟨i + 1, by omega, by go_num, by rw [EX.out], by rw [EY.out], hb3⟩, ?_⟩
            show s.length - ((i : Int) + 1).toNat < s.length - (i : Int).toNat
            omega
      · obtain rfl : i = s.length := by omega
        rw [List.take_of_length_le (Nat.le_refl _)]
        have HS := HG.out.step h8 hbw
        by_cases h0 : s = []
        · subst h0
          go_wp2_with fail
          go_ret
          exact ⟨rfl, hbw⟩
        · have tx := Rx.tellX fold s h0 hs2
          have ty := Rx.tellY fold s hs2
          have hxl := encX_len s
          have hyl := encY_len s
          have c1 := Literal_any s fold _ HS.1 HS.2 hl
          have c2 := fun w hg h8 => told15_any (Rx.encX s) true fold w hg h8 (by omega)
          have c3 := fun w hg h8 => told15_any (Rx.encY s) false fold w hg h8 (by omega)
          have hT : Hid ((litNd fold s).told.length ≤ 140737488355000) := by
            show _ ≤ _
            have h1 := Rx.lit_size fold s hs2
            have h2 := told_le (litNd fold s) (by unfold litNd; omega)
            unfold litNd at h2 ⊢
            omega
          simp only [tx, tellVal_some] at c2
          simp only [ty, tellVal_some] at c3
          clear tx ty hxl hyl
          generalize Rx.encX s = X at *
          generalize Rx.encY s = Y at *
          have hT2 : Hid ((Rx.joinN .cat (s.map (Rx.one fold))).told = (litNd fold s).told) := rfl
          have h5 : ¬ (5000 : Int) < (s.length : Int) := by omega
          have he : ¬ (s = []) := h0
          go_wp2_with fail
          · go_ret
            exact ⟨rfl, hbw⟩
          · refine c1.mono ?_
            rintro e w3 ⟨⟨q, rfl, hre⟩, b3⟩
            obtain ⟨g3, i3⟩ := HS.1.step HS.2 b3
            have d3 := hbw.trans (b3.mono hbw.size)
            clear b3 c1
            go_wp2_with fail
            refine (c2 _ g3 i3).mono ?_
            rintro e w4 ⟨rfl, b4⟩
            obtain ⟨g4, i4⟩ := g3.step i3 b4
            have d4 := d3.trans (b4.mono d3.size)
            have hre4 : ReAt w4 wr.heap.size q (litNd fold s) := hre.keep b4 (Nat.le_refl _)
            clear b4 c2 g3 i3 d3 hre
            go_wp2_with fail
            refine (c3 _ g4 i4).mono ?_
            rintro e w5 ⟨rfl, b5⟩
            obtain ⟨g5, i5⟩ := g4.step i4 b5
            have d5 := d4.trans (b5.mono d4.size)
            have hre5 : ReAt w5 wr.heap.size q (litNd fold s) := hre4.keep b5 (Nat.le_refl _)
            clear b5 c3 g4 i4 d4 hre4
            have c4 := String_any wr.heap.size q (litNd fold s) w5 hre5 g5 i5 hT.out
            have hT3 : litNd fold s = Rx.joinN .cat (s.map (Rx.one fold)) := rfl
            rw [hT3] at c4
            clear hT3 hre5
            generalize (Rx.joinN .cat (s.map (Rx.one fold))).told = T at *
            go_wp2_with fail
            refine c4.mono ?_
            rintro e w6 ⟨rfl, b6⟩
            go_wp2_with fail
            go_ret
            exact ⟨rfl, d5.trans (b6.mono d5.size)⟩

end Go.Proofs.YthdkbbkkijdhfaaGreatDoor

/-
  The reference's two and Digits (base 10). Condition: the numbers are less than 256.
-/
namespace Go.Proofs.YthdkbbkkijdhfaaGreatDoor
open Go.RowKit Go.Shelf Go.Maps

def hex16 : List UInt8 := [48, 49, 50, 51, 52, 53, 54, 55, 56, 57, 97, 98, 99, 100, 101, 102]
theorem hex16_dig : ∀ c : Nat, c < 16 → hex16.getD c 0 = dig c := by decide
theorem two_dig : ∀ c : Nat, c < 256 → Rx.two c = [dig (c / 16), dig (c % 16)] := by decide +kernel

theorem conv_two (a b : UInt8) (W : World) : (convert 22 9 (.slice (some ⟨W.heap.size, 0, none⟩) 2 2)).run Tryz.prog (W.alloc (.cells #[.int .u8 a.toNat, .int .u8 b.toNat] 5)).drew = .ok (.string ⟨#[a, b]⟩) (W.alloc (.cells #[.int .u8 a.toNat, .int .u8 b.toNat] 5)).drew := by
  refine conv_tail (xs := [a, b]) (fun i hi => ?_) 2
  have : i = 0 ∨ i = 1 := by simp at hi; omega
  rcases this with rfl | rfl
  · exact (Blk.new W #[.int .u8 a.toNat, .int .u8 b.toNat] 5).drew.cell 0 rfl
  · exact (Blk.new W #[.int .u8 a.toNat, .int .u8 b.toNat] 5).drew.cell 1 rfl

set_option maxHeartbeats 1600000 in
set_option maxRecDepth 100000 in
theorem rtwo_any (c : Nat) (hc : c < 256) (w : World) :
    Calls Tryz.prog 39 #[.int .i64 c] w fun e w' => e = .returned (.string ⟨(Rx.two c).toArray⟩) ∧ Below w.heap.size w w' := by
  have hcv := conv_two
  have hd : c / 16 < 16 := by omega
  have hm : c % 16 < 16 := Nat.mod_lt _ (by decide)
  have HD : Hid ((⟨hex16.toArray⟩ : ByteArray)[c / 16]'(by simp [hex16, ByteArray.size]; omega) = dig (c / 16)) := (byteAt hex16 (c / 16) _).trans (hex16_dig _ hd)
  have HM : Hid ((⟨hex16.toArray⟩ : ByteArray)[c % 16]'(by simp [hex16, ByteArray.size]; omega) = dig (c % 16)) := (byteAt hex16 (c % 16) _).trans (hex16_dig _ hm)
  have HT := Lib.hid (two_dig c hc)
  have q0 : (0 : Int) ≤ (c : Int) / 16 ∧ (c : Int) / 16 < 16 := by omega
  have q1 : (0 : Int) ≤ (c : Int) % 16 ∧ (c : Int) % 16 < 16 := by omega
  have hwr : IntKind.i64.wrap ((c : Int) / 16) = (c : Int) / 16 := by simp [IntKind.wrap, IntKind.signed, IntKind.bits]; omega
  have t0 : ((c : Int) / 16).toNat = c / 16 := by omega
  have t1 : ((c : Int) % 16).toNat = c % 16 := by omega
  obtain ⟨q2, q3⟩ := q0
  obtain ⟨q4, q5⟩ := q1
  go_enter Tryz.func39, Tryz.ntmps39
  go_wp2_with fail
  go_region
  all_goals go_wp2_with fail
  go_ret
  refine ⟨ret_str ?_, ((Kept.refl (fun _ => False) _).alloc _).drew.below⟩
  rw [HT.out, ← HD.out, ← HM.out]
  rfl

theorem dec_step : ∀ n : Nat, n < 256 → Rx.digitsF 10 20 n = (if n / 10 = 0 then [] else Rx.digitsF 10 20 (n / 10)) ++ [dig (n % 10)] := by decide +kernel

theorem catS' (c : UInt8) (s : Rx.Bytes) : (⟨#[c]⟩ : ByteArray) ++ ⟨s.toArray⟩ = ⟨(c :: s).toArray⟩ := by
  apply ByteArray.ext; simp

/-- Is a string empty? -/
def strZero : Value → Nat
  | .string s => if s.size = 0 then 1 else 0
  | _ => 0

theorem strZero_cons (c : UInt8) (l : Rx.Bytes) : strZero (.string ⟨(c :: l).toArray⟩) = 0 := by
  show (if (c :: l).toArray.size = 0 then 1 else 0) = 0
  rw [if_neg (by simp)]

set_option maxHeartbeats 1600000 in
set_option maxRecDepth 100000 in
theorem rdigits_any (c : Nat) (hc : c < 256) (w : World) :
    Calls Tryz.prog 40 #[.int .i64 c, .int .i64 10] w fun e w' => e = .returned (.string ⟨(Rx.digitsF 10 20 c).toArray⟩) ∧ Below w.heap.size w w' := by
  have hneg : ¬ ((c : Int) < 0) := by omega
  go_enter Tryz.func40, Tryz.ntmps40
  go_wp2_with fail
  go_loopw [6, 7, 8] (fun x6 x7 _ wr => ∃ (r : Nat) (out : Rx.Bytes), r < 256 ∧ x7 = .int .i64 r ∧ x6 = .string ⟨out.toArray⟩ ∧ out.length ≤ 3 ∧ Below w.heap.size w wr ∧ Hid ((out = [] ∧ r = c) ∨ (out ≠ [] ∧ Rx.digitsF 10 20 c = (if r = 0 then [] else Rx.digitsF 10 20 r) ++ out))) (fun x6 x7 _ _ => (intOf x7).toNat + strZero x6)
  case atStart => exact ⟨c, [], hc, rfl, rfl, by simp, Below.refl _ _, .inl ⟨rfl, rfl⟩⟩
  case round =>
    obtain ⟨r, out, hr, rfl, rfl, hol, hbw, HI⟩ := hrel
    have HN : Hid (r ≠ 0 → ∀ t : UInt8, t = dig (r % 10) → t :: out ≠ [] ∧ Rx.digitsF 10 20 c = (if r / 10 = 0 then [] else Rx.digitsF 10 20 (r / 10)) ++ (t :: out)) := by
      rintro h0 t rfl
      refine ⟨by simp, ?_⟩
      rcases HI.out with ⟨rfl, rfl⟩ | ⟨h1, h2⟩
      · exact dec_step r hc
      · rw [h2, if_neg h0, dec_step r hr]
        simp
    have hm : r % 10 < 16 := by omega
    have HD : Hid ((⟨hex16.toArray⟩ : ByteArray)[r % 10]'(by simp [hex16, ByteArray.size]; omega) = dig (r % 10)) := (byteAt hex16 (r % 10) _).trans (hex16_dig _ hm)
    have q2 : 0 ≤ (r : Int) % 10 := by omega
    have q3 : (r : Int) % 10 < 16 := by omega
    have hwr : IntKind.i64.wrap ((r : Int) / 10) = (r : Int) / 10 := by simp [IntKind.wrap, IntKind.signed, IntKind.bits]; omega
    have t1 : ((r : Int) % 10).toNat = r % 10 := by omega
    have q6 : ¬ ((r : Int) % 10 < 0) := by omega
    have hcv := fun v => conv_one v wr
    by_cases h0 : r = 0
    · by_cases hne : out = []
      · subst hne
        subst h0
        have hc0 : c = 0 := by rcases HI.out with ⟨-, h⟩ | ⟨h, -⟩; exact h.symm; exact absurd rfl h
        subst hc0
        have HZ : Hid ((⟨hex16.toArray⟩ : ByteArray)[0]'(by decide) = 48) := rfl
        go_wp2_with fail
        refine ⟨⟨0, [48], by decide, rfl, rfl, by decide, hbw.alloc hbw.size _, .inr ⟨by simp, by decide⟩⟩, ?_⟩
        decide
      · subst h0
        have HE : Hid (Rx.digitsF 10 20 c = out) := by
          show _ = _
          rcases HI.out with ⟨h, -⟩ | ⟨-, h⟩
          · exact absurd h hne
          · simpa using h
        have hem : List.isEmpty out = false := by cases out; exact absurd rfl hne; rfl
        go_wp2_with fail
        go_ret
        rw [HE.out]
        exact ⟨rfl, hbw⟩
    · have hr0 : ¬ ((r : Int) = 0) := by omega
      have hdl := digits10_len c hc
      go_wp2_with fail
      obtain ⟨n1, n2⟩ := HN.out h0 _ HD.out
      refine ⟨⟨r / 10, _, by omega, by simp, congrArg Value.string (catS' _ out), ?_, hbw.alloc hbw.size _, .inr ⟨n1, n2⟩⟩, ?_⟩
      · have := congrArg List.length n2
        simp only [List.length_append, List.length_cons] at this ⊢
        omega
      · show ((r : Int) / 10).toNat + strZero (.string (_ ++ _)) < (r : Int).toNat + _
        have hz : strZero (.string ((⟨#[(⟨hex16.toArray⟩ : ByteArray)[r % 10]'(by simp [hex16, ByteArray.size]; omega)]⟩ : ByteArray) ++ ⟨out.toArray⟩)) = 0 := by
          rw [catS']
          exact strZero_cons _ _
        calc ((r : Int) / 10).toNat + strZero _ = ((r : Int) / 10).toNat + 0 := congrArg (((r : Int) / 10).toNat + ·) hz
          _ < (r : Int).toNat := by omega
          _ ≤ _ := Nat.le_add_right _ _

end Go.Proofs.YthdkbbkkijdhfaaGreatDoor
