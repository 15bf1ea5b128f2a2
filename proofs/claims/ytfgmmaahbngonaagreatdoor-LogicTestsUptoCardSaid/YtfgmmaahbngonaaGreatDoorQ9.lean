/-
  Texts of this seat put together: R1, L3, L4, L5.
-/
import Derived.Test.YtfgmmaahbngonaaGreatDoorQ8
import Derived.Test.YtfgmmaahbngonaaGreatDoorQ5

/-
  The walk of proc.New. Conditions: the arguments lie in memory; without an environment.
-/
namespace Go.Proofs.YtfgmmaahbngonaaGreatDoor
open Go.RowKit Go.Shelf Go.Maps

/-- Texts that lie behind a pointer. -/
def Ss (w : World) (p : Option Addr) (l : List Bts) : Prop := 0 < l.length → ∃ b o, p = some ⟨b, o, none⟩ ∧ ∀ i, i < l.length → w.cell? ⟨b, o + i, none⟩ = some (strV (l.getD i []))
theorem Ss.below {w w' : World} {p : Option Addr} {l : List Bts} (h : Ss w p l) (hb : Below w.heap.size w w') : Ss w' p l := by
  intro hl
  obtain ⟨b, o, hp, hc⟩ := h hl
  exact ⟨b, o, hp, fun i hi => (hb.cell (p := ⟨b, o + i, none⟩) (World.block_lt_of_cell? _ _ (hc i hi))).trans (hc i hi)⟩

theorem clone_ss (w : World) (p : Option Addr) (l : List Bts) (c : Nat) (h : Ss w p l) (hl : l.length < 1073741824) :
    Calls Tryz.prog 44 #[.slice p l.length c] w fun e w' => ∃ v', e = .returned v' ∧ StrsOwn w' w.heap.size v' l ∧ Below w.heap.size w w' := by
  rcases Nat.eq_zero_or_pos l.length with h0 | h0
  · obtain rfl : l = [] := List.eq_nil_of_length_eq_zero h0
    cases p with
    | none =>
      refine (Any.slices_Clone_string_nil Tryz.laysNm216 0 c w).mono ?_
      rintro e w' ⟨rfl, rfl⟩
      exact ⟨_, rfl, World.ownsRow_nil _ _ _ _, Below.refl _ _⟩
    | some a =>
      refine (Any.slices_Clone_string_zero Tryz.laysNm216 a c w).mono ?_
      rintro e w' ⟨v', rfl, hown, -, hb⟩
      exact ⟨v', rfl, hown, hb⟩
  · obtain ⟨b, o, rfl, hc⟩ := h h0
    refine (Any.slices_Clone_string Tryz.laysNm216 b o l.length c (l.map fun s => ⟨s.toArray⟩) w (by simp) (by omega) fun j hj => ?_).mono ?_
    · rw [List.length_map] at hj
      rw [hc j hj]
      simp [List.getD_eq_getElem?_getD, hj, strV]
    · rintro e w' ⟨v', rfl, hown, -, hb⟩
      refine ⟨v', rfl, ?_, hb⟩
      have e2 : ((l.map fun s => (⟨s.toArray⟩ : ByteArray)).take l.length).map Value.string = l.map strV := by
        rw [List.take_of_length_le (by simp), List.map_map]; rfl
      rw [e2] at hown
      exact hown

theorem strs_shape {w : World} {B : Nat} {v : Value} {l : List Bts} (h : StrsOwn w B v l) : ∃ p c, v = .slice p l.length c := by
  rcases h.2 with ⟨h1, h2⟩ | ⟨g, cap, cur, e, -⟩
  · exact ⟨none, 0, by rw [h2]; exact h1⟩
  · exact ⟨_, _, e⟩

set_option maxRecDepth 100000 in
set_option maxHeartbeats 4000000 in
theorem procNew_any (k : Nat) (p : Option Addr) (l : List Bts) (c : Nat) (buf line run : Int) (w : World) (h : Ss w p l) (hl : l.length < 1073741824) :
    Calls Tryz.prog 22 #[.pointer (some ⟨k, 0, none⟩), .slice p l.length c, .slice none 0 0, .string ⟨#[]⟩, .agg #[.int .i64 buf, .int .i64 line, .int .i64 run]] w fun e w' => ∃ pp tb al v, e = .returned (.pointer (some ⟨pp, 0, none⟩)) ∧ ProcAt w' pp k tb v buf line run 0 0 false false 0 al ∧ TabAt w' tb k .nilIface .nilIface .nilIface ∧ Blk w' al #[.slice none 0 0, .slice none 0 0, .int .i64 (-1)] 70 ∧ StrsOwn w' w.heap.size v l ∧ w.heap.size ≤ pp ∧ w.heap.size ≤ tb ∧ w.heap.size ≤ al ∧ pp ≠ tb ∧ pp ≠ al ∧ tb ≠ al ∧ Below w.heap.size w w' := by
  obtain ⟨w1, hw1⟩ : ∃ w1, w.alloc (.cells #[.int .i64 buf, .int .i64 line, .int .i64 run] 39) = w1 := ⟨_, rfl⟩
  have hb1 : Below w.heap.size w w1 := by rw [← hw1]; exact (Below.refl _ _).alloc (Nat.le_refl _) _
  have hn1 : Blk w1 w.heap.size #[.int .i64 buf, .int .i64 line, .int .i64 run] 39 := by rw [← hw1]; exact Blk.new _ _ _
  have a0 := hn1.cell 0 (v := .int .i64 buf) rfl
  have a1 := hn1.cell 1 (v := .int .i64 line) rfl
  have a2 := hn1.cell 2 (v := .int .i64 run) rfl
  have hl1 := hn1.lt
  have HB1 := Lib.hid hb1
  have HN1 := Lib.hid hn1
  have HS := Lib.hid (h.below hb1)
  clear hb1 hn1 h
  have FIN : Hid (∀ Wp tb al v B, TabAt Wp tb k .nilIface .nilIface .nilIface → Blk Wp al #[.slice none 0 0, .slice none 0 0, .int .i64 (-1)] 70 → StrsOwn Wp B v l → w.heap.size ≤ B → Below w.heap.size w Wp → w.heap.size ≤ tb → w.heap.size ≤ al → tb ≠ al →
      ∃ pp tb' al' v', Ending.returned (.pointer (some ⟨Wp.heap.size, 0, none⟩)) = .returned (.pointer (some ⟨pp, 0, none⟩)) ∧ ProcAt (Wp.alloc (.cells #[.pointer (some ⟨k, 0, none⟩), .pointer (some ⟨tb, 0, none⟩), v, .slice none 0 0, .string ⟨#[]⟩, .int .i64 buf, .int .i64 line, .int .i64 run, .int .i64 0, .int .i64 0, .slice none 0 0, .int .i64 0, .bool false, .bool false, .bool false, .int .i64 0, .nilIface, .pointer (some ⟨al, 0, none⟩)] 66)) pp k tb' v' buf line run 0 0 false false 0 al' ∧
        TabAt (Wp.alloc (.cells #[.pointer (some ⟨k, 0, none⟩), .pointer (some ⟨tb, 0, none⟩), v, .slice none 0 0, .string ⟨#[]⟩, .int .i64 buf, .int .i64 line, .int .i64 run, .int .i64 0, .int .i64 0, .slice none 0 0, .int .i64 0, .bool false, .bool false, .bool false, .int .i64 0, .nilIface, .pointer (some ⟨al, 0, none⟩)] 66)) tb' k .nilIface .nilIface .nilIface ∧
        Blk (Wp.alloc (.cells #[.pointer (some ⟨k, 0, none⟩), .pointer (some ⟨tb, 0, none⟩), v, .slice none 0 0, .string ⟨#[]⟩, .int .i64 buf, .int .i64 line, .int .i64 run, .int .i64 0, .int .i64 0, .slice none 0 0, .int .i64 0, .bool false, .bool false, .bool false, .int .i64 0, .nilIface, .pointer (some ⟨al, 0, none⟩)] 66)) al' #[.slice none 0 0, .slice none 0 0, .int .i64 (-1)] 70 ∧
        StrsOwn (Wp.alloc (.cells #[.pointer (some ⟨k, 0, none⟩), .pointer (some ⟨tb, 0, none⟩), v, .slice none 0 0, .string ⟨#[]⟩, .int .i64 buf, .int .i64 line, .int .i64 run, .int .i64 0, .int .i64 0, .slice none 0 0, .int .i64 0, .bool false, .bool false, .bool false, .int .i64 0, .nilIface, .pointer (some ⟨al, 0, none⟩)] 66)) w.heap.size v' l ∧ w.heap.size ≤ pp ∧ w.heap.size ≤ tb' ∧ w.heap.size ≤ al' ∧ pp ≠ tb' ∧ pp ≠ al' ∧ tb' ≠ al' ∧ Below w.heap.size w (Wp.alloc (.cells #[.pointer (some ⟨k, 0, none⟩), .pointer (some ⟨tb, 0, none⟩), v, .slice none 0 0, .string ⟨#[]⟩, .int .i64 buf, .int .i64 line, .int .i64 run, .int .i64 0, .int .i64 0, .slice none 0 0, .int .i64 0, .bool false, .bool false, .bool false, .int .i64 0, .nilIface, .pointer (some ⟨al, 0, none⟩)] 66))) := Lib.hid (by
    intro Wp tb al v B h1 h2 h3 h4 h5 h6 h7 h8
    have hlt1 := h1.lt
    have hlt2 := h2.lt
    exact ⟨_, tb, al, v, rfl, Blk.new _ _ _, h1.alloc _, h2.alloc _, own_mono (own_kept h3 (Kept.of_below (S := fun _ => False) ((Below.refl _ _).alloc (Nat.le_refl _) _)) fun _ _ h => h) h4, h5.size, h6, h7, by omega, by omega, h8, h5.alloc h5.size _⟩)
  go_enter Tryz.func22, Tryz.ntmps22
  go_wp2_with fail
  try rw [hw1]
  clear hw1
  go_region_held3 (fun w' => w'.cell? ⟨w.heap.size, 0, none⟩ = some (.int .i64 buf) ∧ w'.cell? ⟨w.heap.size, 1, none⟩ = some (.int .i64 line) ∧ w'.cell? ⟨w.heap.size, 2, none⟩ = some (.int .i64 run)) (first | go_keep | (exact HL2.out) | (exact HL3.out))
    ((first
      | (go_at_call 43; refine (table_any k _).mono ?_; rintro e w2 ⟨rfl, ht2, hb2⟩; have hbb2 : Below w1.heap.size w1 w2 := (by first | exact (below_drew2 w1).trans hb2 | exact ((below_drew2 w1).alloc (Nat.le_refl _) _).trans (hb2.mono (by simp)) | exact (((Below.refl _ w1).alloc (Nat.le_refl _) _).drew).trans (hb2.mono (by simp))); have HL2 := Lib.hid (show w2.cell? ⟨w.heap.size, 0, none⟩ = some (.int .i64 buf) ∧ w2.cell? ⟨w.heap.size, 1, none⟩ = some (.int .i64 line) ∧ w2.cell? ⟨w.heap.size, 2, none⟩ = some (.int .i64 run) from ⟨(hbb2.cell (p := ⟨w.heap.size, 0, none⟩) hl1).trans a0, (hbb2.cell (p := ⟨w.heap.size, 1, none⟩) hl1).trans a1, (hbb2.cell (p := ⟨w.heap.size, 2, none⟩) hl1).trans a2⟩); have HT2 := Lib.hid ht2; have HB2 := Lib.hid hbb2; have HBR2 := Lib.hid hb2; clear ht2 hb2 hbb2)
      | (go_at_call 44; refine (clone_ss _ p l c (HS.out.below (by first | exact HB2.out | exact HB2.out.alloc HB2.out.size _)) hl).mono ?_; rintro e w3 ⟨v3, rfl, ho3, hb3⟩; obtain ⟨p3, c3, rfl⟩ := strs_shape ho3; have hb23 : Below w2.heap.size w2 w3 := (by first | exact hb3 | exact (((Below.refl _ w2).alloc (Nat.le_refl _) _)).trans (hb3.mono (by simp))); have hbb3 := HB2.out.trans (hb23.mono HB2.out.size); have HL3 := Lib.hid (show w3.cell? ⟨w.heap.size, 0, none⟩ = some (.int .i64 buf) ∧ w3.cell? ⟨w.heap.size, 1, none⟩ = some (.int .i64 line) ∧ w3.cell? ⟨w.heap.size, 2, none⟩ = some (.int .i64 run) from ⟨(hbb3.cell (p := ⟨w.heap.size, 0, none⟩) hl1).trans a0, (hbb3.cell (p := ⟨w.heap.size, 1, none⟩) hl1).trans a1, (hbb3.cell (p := ⟨w.heap.size, 2, none⟩) hl1).trans a2⟩); have HO3 := Lib.hid ho3; have HB3 := Lib.hid hbb3; have HB23 := Lib.hid hb23; have HBR3 := Lib.hid hb3; clear ho3 hb3 hb23 hbb3)
      | (go_at_call 44; refine (Any.slices_Clone_string_nil Tryz.laysNm216 0 0 _).mono ?_; rintro e w4 ⟨rfl, rfl⟩)))
  · go_wp2_with fail
    go_ret
    have hh := FIN.out _ _ _ _ _ ((HT2.out.keep HB23.out HT2.out.lt).alloc _) (Blk.new _ _ _) (own_kept HO3.out (Kept.of_below (S := fun _ => False) ((Below.refl _ _).alloc (Nat.le_refl _) _)) fun _ _ h => h) (Nat.le_trans HB1.out.size HB2.out.size) ((HB1.out.trans (HB3.out.mono HB1.out.size)).alloc (Nat.le_trans HB1.out.size HB3.out.size) _) HB1.out.size (Nat.le_trans HB1.out.size HB3.out.size) (Nat.ne_of_lt (Nat.lt_of_lt_of_le HT2.out.lt HB23.out.size))
    simp only [World.size_alloc] at hh
    exact hh
  · go_wp2_with fail
    go_ret
    have hh := FIN.out _ _ _ _ _ ((HT2.out.keep HB23.out HT2.out.lt).alloc _) (Blk.new _ _ _) (own_kept HO3.out (Kept.of_below (S := fun _ => False) ((Below.refl _ _).alloc (Nat.le_refl _) _)) fun _ _ h => h) (Nat.le_trans HB1.out.size HB2.out.size) ((HB1.out.trans (HB3.out.mono HB1.out.size)).alloc (Nat.le_trans HB1.out.size HB3.out.size) _) HB1.out.size (Nat.le_trans HB1.out.size HB3.out.size) (Nat.ne_of_lt (Nat.lt_of_lt_of_le HT2.out.lt HB23.out.size))
    simp only [World.size_alloc] at hh
    exact hh
  · go_wp2_with fail
    go_ret
    exact FIN.out _ _ _ _ _ (HT2.out.keep HB23.out HT2.out.lt) ((Blk.new w2 _ _).keep HBR3.out (by simp)) HO3.out (Nat.le_trans HB1.out.size (Nat.le_trans HB2.out.size (by simp))) (HB1.out.trans (HB3.out.mono HB1.out.size)) HB1.out.size (Nat.le_trans HB1.out.size HB2.out.size) (Nat.ne_of_lt HT2.out.lt)
  · go_wp2_with fail
    go_ret
    have ht := HT2.out.keep HB23.out HT2.out.lt
    rw [show ((w1.alloc (.cells #[.slice none 0 0, .slice none 0 0, .int .i64 (-1)] 70)).drew).heap.size = w1.heap.size + 1 by simp] at ht
    exact FIN.out _ _ _ _ _ ht (((Blk.new w1 _ _).drew.keep HBR2.out (by simp)).keep HB23.out (by have := HBR2.out.size; simp at this; omega)) HO3.out (Nat.le_trans HB1.out.size HB2.out.size) (HB1.out.trans (HB3.out.mono HB1.out.size)) (by have := HB1.out.size; omega) HB1.out.size (by omega)

end Go.Proofs.YtfgmmaahbngonaaGreatDoor

/-
  The walks of test's parts: files (whatever it hands back), binary, unary of texts, holds. Conditions: the texts are no longer than memory allows; what the library's variables hold.
-/
namespace Go.Proofs.YtfgmmaahbngonaaGreatDoor
open Go.RowKit Go.Shelf Go.Maps

theorem map_as {P : Program} {k : TypeId} {R : Value → Option (DataW Unit × List MemPlace)} {w w' : World} {m n : Nat} {D : DataW Unit} (h : w.ownsMap P k R m n D) (e : w'.heap[m]? = w.heap[m]?) : w'.ownsMap P k R m n D := by
  obtain ⟨es, clock, hb, F, hs, hD⟩ := h
  exact ⟨es, clock, e.trans hb, F, hs, hD⟩

set_option maxRecDepth 100000 in
theorem bit_any (m : Int) (w : World) : Calls Tryz.prog 84 #[.int .i64 m] w fun e w' => ∃ c, e = .returned (.agg #[.func (.func 85) #[] #[.pointer (some ⟨c, 0, none⟩)]]) ∧ Below w.heap.size w w' := by
  have hmf : ∀ (fn : Fn) (first cap : Array Value) (w : World), (Instr.makeFunc fn first cap).run Tryz.prog w = .ok (.func fn first cap) w := fun _ _ _ _ => rfl
  obtain ⟨w1, hw1⟩ : ∃ w1, (w.alloc (.cells #[.int .i64 m] 3)).alloc (.cells #[.func (.func 85) #[] #[.pointer (some ⟨w.heap.size, 0, none⟩)]] 197) = w1 := ⟨_, rfl⟩
  have hb1 : Below w.heap.size w w1 := by rw [← hw1]; exact ((Below.refl _ _).alloc (Nat.le_refl _) _).alloc (by simp) _
  have k1 : Blk w1 (w.heap.size + 1) #[.func (.func 85) #[] #[.pointer (some ⟨w.heap.size, 0, none⟩)]] 197 := by
    rw [← hw1]
    have := Blk.new (w.alloc (.cells #[.int .i64 m] 3)) #[.func (.func 85) #[] #[.pointer (some ⟨w.heap.size, 0, none⟩)]] 197
    simpa only [World.size_alloc] using this
  have r0 := k1.cell 0 (v := .func (.func 85) #[] #[.pointer (some ⟨w.heap.size, 0, none⟩)]) rfl
  have HB := Lib.hid hb1
  have HR := Lib.hid r0
  have HW := Lib.hid hw1
  clear hb1 k1 hw1 r0
  go_enter Tryz.func84, Tryz.ntmps84
  go_wp2_with fail
  rw [HW.out]
  have r0 := HR.out
  refine bodyPost_ret (v := .agg #[.func (.func 85) #[] #[.pointer (some ⟨w.heap.size, 0, none⟩)]]) ?_ rfl ⟨_, rfl, HB.out⟩
  simp [results, Tryz.results84, go_sem, r0]

set_option maxHeartbeats 1600000 in
set_option maxRecDepth 100000 in
theorem files_any (w : World) : Calls Tryz.prog 56 #[] w fun e w' => ∃ m, e = .returned (.map (some m)) ∧ Below w.heap.size w w' := by
  have hmm := @run_makeMap Tryz.prog
  have st := fun (W : World) (n : Nat) (D : DataW Unit) (h : W.ownsMap Tryz.prog 9 fnElem w.heap.size n D) (hn : n < maxLen) (key : List UInt8) (v : Value) (d : DataW Unit) (hv : fnElem v = some (d, [])) (hk : key.length ≤ maxLen) =>
    World.ownsMap.update h kStr (t := 153) Tryz.underlying153 hn (key := .string ⟨key.toArray⟩) (val := v) (kl := .string key) (Go.WideMaps.keyOf_string_mk Tryz.underlying9 (by simpa [ByteArray.size] using hk)) hv
  have o0 := World.ownsMap_made w Tryz.prog 9 fnElem
  obtain ⟨w1, e1, o1, g1⟩ := st _ 0 _ o0 (by decide) [45, 101] (fnV 86) _ (fnElem_fn _) (by decide)
  obtain ⟨w2, e2, o2, g2⟩ := st _ 1 _ o1 (by decide) [45, 100] (fnV 87) _ (fnElem_fn _) (by decide)
  obtain ⟨w3, e3, o3, g3⟩ := st _ 2 _ o2 (by decide) [45, 102] (fnV 88) _ (fnElem_fn _) (by decide)
  obtain ⟨w4, e4, o4, g4⟩ := st _ 3 _ o3 (by decide) [45, 115] (fnV 89) _ (fnElem_fn _) (by decide)
  have t : ∀ (W W' : World), Below w.heap.size w W → W.grownBy W' (some w.heap.size) → Below w.heap.size w W' := fun W W' h g => h.trans (grown_below g (Nat.le_refl _) h.size)
  have h0 : Below w.heap.size w (w.alloc (.map #[] 0)) := (Below.refl _ _).alloc (Nat.le_refl _) _
  have hb4 := t _ _ (t _ _ (t _ _ (t _ _ h0 g1) g2) g3) g4
  have HO4 := Lib.hid o4
  have HB4 := Lib.hid hb4
  have ST := Lib.hid st
  have T := Lib.hid t
  have hent : ∀ (args : Array Value) (W : World), (callFunc 84 args).run Tryz.prog W = .ok (.enter 84 args) W := fun args W => rfl
  unfold fnV at e1 e2 e3 e4
  clear st t o0 o1 g1 o2 g2 o3 g3 o4 g4 h0 hb4
  go_enter Tryz.func56, Tryz.ntmps56
  go_wp2_with fail
  refine (bit_any _ _).mono ?_
  rintro e w5 ⟨c5, rfl, hb5⟩
  obtain ⟨w6, e6, o6, g6⟩ := ST.out w5 4 _ (map_as HO4.out (hb5.block _ HO4.out.lt)) (by decide) [45, 114] _ _ (fnElem_box 85 c5) (by decide)
  have HB6 := Lib.hid (T.out _ _ (HB4.out.trans (hb5.mono HB4.out.size)) g6)
  have HO6 := Lib.hid o6
  unfold fnB at e6
  clear hb5 o6 g6
  go_wp2_with fail
  refine (bit_any _ _).mono ?_
  rintro e w7 ⟨c7, rfl, hb7⟩
  obtain ⟨w8, e8, o8, g8⟩ := ST.out w7 5 _ (map_as HO6.out (hb7.block _ HO6.out.lt)) (by decide) [45, 119] _ _ (fnElem_box 85 c7) (by decide)
  have HB8 := Lib.hid (T.out _ _ (HB6.out.trans (hb7.mono HB6.out.size)) g8)
  have HO8 := Lib.hid o8
  unfold fnB at e8
  clear hb7 o8 g8
  go_wp2_with fail
  refine (bit_any _ _).mono ?_
  rintro e w9 ⟨c9, rfl, hb9⟩
  obtain ⟨wA, eA, oA, gA⟩ := ST.out w9 6 _ (map_as HO8.out (hb9.block _ HO8.out.lt)) (by decide) [45, 120] _ _ (fnElem_box 85 c9) (by decide)
  have HBA := Lib.hid (T.out _ _ (HB8.out.trans (hb9.mono HB8.out.size)) gA)
  unfold fnB at eA
  clear hb9 oA gA
  go_wp2_with fail
  go_ret
  exact ⟨_, rfl, HBA.out⟩

theorem OrdAt.below {W W' : World} {m : Nat} {names : List Bts} (h : OrdAt W m names) (hb : Below W.heap.size W W') : OrdAt W' m names := by
  obtain ⟨D, ho, ha⟩ := h
  exact ⟨D, map_as ho (hb.block _ ho.lt), ha⟩
theorem place_lt : ∀ {l : List Bts} {s : Bts} {k : Nat}, Lg.place l s = some k → k < l.length
  | [], _, _, h => by cases h
  | x :: r, s, k, h => by
    rw [Lg.place] at h
    split at h
    · injection h with h; subst h; simp
    · cases hp : Lg.place r s with
      | none => rw [hp] at h; cases h
      | some j =>
        rw [hp] at h
        injection h with h
        subst h
        have := place_lt hp
        simp
        omega
/-- A look-up among orders. -/
theorem ord_look {W : World} {m : Nat} {names : List Bts} (h : OrdAt W m names) (s : Bts) (hs : s.length ≤ maxLen) :
    match Lg.place names s with
    | some k => (Instr.lookup 155 (.map (some m)) (.string ⟨s.toArray⟩) true).run Tryz.prog W = .ok (.tuple #[fnV (ordFn k), .bool true]) W
    | none => ∃ v, (v = .agg #[.nilFunc] ∨ ∃ n, v = fnV n) ∧ (Instr.lookup 155 (.map (some m)) (.string ⟨s.toArray⟩) true).run Tryz.prog W = .ok (.tuple #[v, .bool false]) W := by
  obtain ⟨D, ho, ha⟩ := h
  obtain ⟨v, ps, hrun, hv⟩ := ho.look_ok kStr (t := 155) Tryz.underlying155 (z := .agg #[.nilFunc]) (by kernel_rfl) (zd := .lit (.int .i64 (-1))) (zp := []) rfl (key := .string ⟨s.toArray⟩) (kl := .string s) (Go.WideMaps.keyOf_string_mk Tryz.underlying9 (by simpa [ByteArray.size] using hs))
  have hat := ha s
  cases hp : Lg.place names s with
  | some k =>
    rw [hp] at hat
    simp only at hat ⊢
    rw [hat] at hv
    obtain rfl := fnElem_inv hv
    rw [hrun, has_true_of_atKey hat]
  | none =>
    rw [hp] at hat
    simp only at hat ⊢
    rw [hat] at hv
    refine ⟨v, ?_, by rw [hrun, has_false_of_atKey hat]⟩
    unfold fnElem at hv
    split at hv
    · rename_i cs
      unfold fnList at hv
      split at hv
      · rename_i f x y e
        split at hv
        · rename_i hs
          obtain ⟨rfl, rfl⟩ := hs
          right
          exact ⟨f, congrArg Value.agg (Array.toList_inj.1 e)⟩
        · split at hv
          · split at hv
            · simp at hv
            · cases hv
          · cases hv
      · rename_i e
        left
        exact congrArg Value.agg (Array.toList_inj.1 e)
      · cases hv
    · cases hv

/-- test's reader of its operands. -/
def TesterAt (W : World) (tb p mf mo : Nat) : Prop := Blk W tb #[.pointer (some ⟨p, 0, none⟩), .map (some mf), .map (some mo)] 158 ∧ OrdAt W mo Lg.tnames
theorem TesterAt.below {W W' : World} {tb p mf mo : Nat} (h : TesterAt W tb p mf mo) (hb : Below W.heap.size W W') : TesterAt W' tb p mf mo := ⟨h.1.keep hb h.1.lt, h.2.below hb⟩

/-- An answer, or what went wrong. -/
def BoolVal (W : World) (B : Nat) (x : Except Lg.Bad Bool) (b : Bool) (v : Value) : Prop := match x with
  | .ok y => b = y ∧ v = .nilIface
  | .error bad => BadAt W B v bad
/-- What binary hands back. -/
def BinVal (W : World) (B : Nat) (x : Option (Except Lg.Bad Bool)) (v : Value) : Prop := match x with
  | none => v = .tuple #[.bool false, .nilIface, .bool false]
  | some y => ∃ b e, v = .tuple #[.bool b, e, .bool true] ∧ BoolVal W B y b e

set_option maxHeartbeats 1600000 in
set_option maxRecDepth 100000 in
theorem binary_any (tb p mf mo : Nat) (a op b : Bts) (ha : a.length ≤ 140737488351232) (ho : op.length ≤ 140737488351232) (hb : b.length ≤ 140737488351232) (w : World) (hg : Glo w) (ht : TesterAt w tb p mf mo) :
    Calls Tryz.prog 96 #[.pointer (some ⟨tb, 0, none⟩), .string ⟨a.toArray⟩, .string ⟨op.toArray⟩, .string ⟨b.toArray⟩] w fun e w' => ∃ v, e = .returned v ∧ BinVal w' w.heap.size (Lg.binary a op b) v ∧ Below w.heap.size w w' := by
  unfold Lg.binary
  by_cases h1 : op = [61]
  · subst h1
    rw [if_pos rfl]
    clear ht hg
    go_enter Tryz.func96, Tryz.ntmps96
    go_wp2_with fail
    go_ret3
    exact ⟨_, rfl, ⟨_, _, rfl, by simp, rfl⟩, Below.refl _ _⟩
  have e1 : (op == [61]) = false := by simpa using h1
  rw [if_neg h1]
  by_cases h2 : op = [33, 61]
  · subst h2
    rw [if_pos rfl]
    clear ht hg h1
    go_enter Tryz.func96, Tryz.ntmps96
    go_wp2_with fail
    go_ret3
    exact ⟨_, rfl, ⟨_, _, rfl, by simp [bne], rfl⟩, Below.refl _ _⟩
  have e2 : (op == [33, 61]) = false := by simpa using h2
  rw [if_neg h2]
  have c2 := ht.1.cell 2 (v := .map (some mo)) rfl
  have hl := ord_look ht.2 op (by unfold maxLen; omega)
  have hba : ∀ v, Below w.heap.size w (w.alloc (.cells #[v] 200)) := fun v => (Below.refl _ _).alloc (Nat.le_refl _) _
  cases hp : Lg.place Lg.tnames op with
  | none =>
    rw [hp] at hl
    simp only at hl
    obtain ⟨v, hvz, hrun⟩ := hl
    clear hg ht hp
    rcases hvz with rfl | ⟨n, rfl⟩
    · go_enter Tryz.func96, Tryz.ntmps96
      go_wp2_with fail
      go_ret3
      exact ⟨_, rfl, rfl, by first | exact hba _ | exact (hba _).setCell (by simp) _⟩
    · unfold fnV at hrun
      go_enter Tryz.func96, Tryz.ntmps96
      go_wp2_with fail
      go_ret3
      exact ⟨_, rfl, rfl, by first | exact hba _ | exact (hba _).setCell (by simp) _⟩
  | some k =>
    rw [hp] at hl
    simp only at hl
    have hk : k < 6 := place_lt hp
    obtain ⟨hent, hcmp⟩ := isCmp k hk
    generalize ordFn k = g at *
    clear ht hp hk
    unfold fnV at hl
    simp only
    have HNUM : Hid (∀ W, Below w.heap.size w W → Calls Tryz.prog 111 #[.string ⟨a.toArray⟩, .string ⟨b.toArray⟩] W fun e w' => ∃ v, e = .returned v ∧ NumsVal w' W.heap.size (Lg.nums a b) v ∧ Below W.heap.size W w') := Lib.hid (fun W hW => lnumbers_any a b ha hb W (hg.below hW))
    clear hg
    cases hn : Lg.nums a b with
    | error bad =>
      rw [hn] at HNUM
      clear hn
      simp only
      go_enter Tryz.func96, Tryz.ntmps96
      go_wp2_with fail
      refine (HNUM.out _ (hba _)).mono ?_
      rintro e w1 ⟨v, rfl, ⟨ev, rfl, hbad⟩, hb1⟩
      obtain ⟨q, rfl, hq, hkq⟩ := hbad
      have HBW := Lib.hid ((hba (.func (.func g) #[] #[])).trans (hb1.mono (hba (.func (.func g) #[] #[])).size))
      have HK := Lib.hid hkq
      have HQ := Lib.hid (Nat.le_trans (hba (.func (.func g) #[] #[])).size hq)
      clear hb1 hkq hq hcmp hent
      go_wp2_with fail
      go_region
      go_wp2_with fail
      go_ret3
      exact ⟨_, rfl, ⟨_, _, rfl, _, rfl, HQ.out, HK.out.drew⟩, HBW.out.drew⟩
    | ok nm =>
      obtain ⟨n, m⟩ := nm
      rw [hn] at HNUM
      clear hn
      simp only
      go_enter Tryz.func96, Tryz.ntmps96
      go_wp2_with fail
      refine (HNUM.out _ (hba _)).mono ?_
      rintro e w1 ⟨v, rfl, rfl, hb1⟩
      have ho := (Blk.new w #[.func (.func g) #[] #[]] 200).keep hb1 (by simp)
      have o0 := ho.cell 0 (v := .func (.func g) #[] #[]) rfl
      have hs := sign_any n m
      have HBW := Lib.hid ((hba (.func (.func g) #[] #[])).trans (hb1.mono (hba (.func (.func g) #[] #[])).size))
      clear hb1 ho
      go_wp2_with fail
      go_quiet ((first | (go_at_call 112; exact Calls.quiet_of_same (hs _)) | (go_at_fn g; exact Calls.quiet_of_same (hcmp _ _))))
      go_wp2_with fail
      go_ret3
      exact ⟨_, rfl, ⟨_, _, rfl, rfl, rfl⟩, HBW.out.trans ⟨rfl, rfl, rfl, Nat.le_refl _, fun _ _ => rfl⟩⟩

end Go.Proofs.YtfgmmaahbngonaaGreatDoor

/-
  The walks of test's unary and holds. Conditions: the texts are no longer than memory allows; what the library's variables hold; what is asked is told by the spec.
-/
namespace Go.Proofs.YtfgmmaahbngonaaGreatDoor
open Go.RowKit Go.Shelf Go.Maps

/-- What holds hands back. -/
def HoldVal (W : World) (B : Nat) (x : Except Lg.Bad Bool) (v : Value) : Prop := ∃ b e, v = .tuple #[.bool b, e] ∧ BoolVal W B x b e
theorem BoolVal.below {W W' : World} {B B' : Nat} {x : Except Lg.Bad Bool} {b : Bool} {v : Value} (h : BoolVal W B x b v) (hb : Below W.heap.size W W') (hB : B' ≤ B) : BoolVal W' B' x b v := by
  cases x with
  | ok y => exact h
  | error bad =>
    obtain ⟨q, h1, h2, h3⟩ := BadAt.below (show BadAt W B v bad from h) hb
    exact ⟨q, h1, Nat.le_trans hB h2, h3⟩

set_option maxRecDepth 100000 in
theorem unary_any (tb : Nat) (op s : Bts) (x : Except Lg.Bad Bool) (hx : Lg.unary op s = some x) (w : World) : ∃ y, x = .ok y ∧
    Calls Tryz.prog 97 #[.pointer (some ⟨tb, 0, none⟩), .string ⟨op.toArray⟩, .string ⟨s.toArray⟩] w fun e w' => e = .returned (.tuple #[.bool y, .nilIface]) ∧ w' = w := by
  unfold Lg.unary at hx
  by_cases h1 : op = [45, 122]
  · subst h1
    rw [if_pos rfl] at hx
    injection hx with hx
    subst hx
    refine ⟨_, rfl, ?_⟩
    go_enter Tryz.func97, Tryz.ntmps97
    go_wp2_with fail
    go_ret2
    exact ⟨by cases s <;> rfl, rfl⟩
  rw [if_neg h1] at hx
  have e1 : (op == [45, 122]) = false := by simpa using h1
  by_cases h2 : op = [45, 110]
  · subst h2
    rw [if_pos rfl] at hx
    injection hx with hx
    subst hx
    clear h1
    refine ⟨_, rfl, ?_⟩
    go_enter Tryz.func97, Tryz.ntmps97
    go_wp2_with fail
    go_ret2
    exact ⟨by cases s <;> rfl, rfl⟩
  rw [if_neg h2] at hx
  cases hx

/-- holds, of so many steps. -/
def HoldsC (f : Nat) : Prop := ∀ (l : List Bts) (x : Except Lg.Bad Bool), Lg.holds f l = some x → (∀ s ∈ l, s.length ≤ 140737488351232) → ∀ (W : World) (p : Option Addr) (c tb pp mf mo : Nat), l.length ≤ c → Ss W p l → Glo W → TesterAt W tb pp mf mo →
  Calls Tryz.prog 58 #[.pointer (some ⟨tb, 0, none⟩), .slice p l.length c] W fun e W' => ∃ v, e = .returned v ∧ HoldVal W' W.heap.size x v ∧ Below W.heap.size W W'

theorem ss_at {W : World} {p : Option Addr} {l : List Bts} (h : Ss W p l) (h0 : 0 < l.length) : ∃ b o, p = some ⟨b, o, none⟩ ∧ ∀ i, i < l.length → W.cell? ⟨b, o + i, none⟩ = some (strV (l.getD i [])) := h h0

set_option maxHeartbeats 1600000 in
set_option maxRecDepth 100000 in
theorem holds0 (W : World) (p : Option Addr) (c tb : Nat) : Calls Tryz.prog 58 #[.pointer (some ⟨tb, 0, none⟩), .slice p 0 c] W fun e W' => ∃ v, e = .returned v ∧ HoldVal W' W.heap.size (.ok false) v ∧ Below W.heap.size W W' := by
  go_enter Tryz.func58, Tryz.ntmps58
  go_wp2_with fail
  go_ret2
  exact ⟨_, rfl, ⟨_, _, rfl, rfl, rfl⟩, Below.refl _ _⟩
set_option maxHeartbeats 1600000 in
set_option maxRecDepth 100000 in
theorem holds1 (a : Bts) (W : World) (b o c tb : Nat) (ha : W.cell? ⟨b, o, none⟩ = some (.string ⟨a.toArray⟩)) : Calls Tryz.prog 58 #[.pointer (some ⟨tb, 0, none⟩), .slice (some ⟨b, o, none⟩) 1 c] W fun e W' => ∃ v, e = .returned v ∧ HoldVal W' W.heap.size (.ok (!a.isEmpty)) v ∧ Below W.heap.size W W' := by
  go_enter Tryz.func58, Tryz.ntmps58
  go_wp2_with fail
  go_ret2
  exact ⟨_, rfl, ⟨_, _, rfl, by cases a <;> rfl, rfl⟩, Below.refl _ _⟩
set_option maxHeartbeats 1600000 in
set_option maxRecDepth 100000 in
theorem holds5 (n : Nat) (hn : 4 < n) (W : World) (p : Option Addr) (c tb : Nat) : Calls Tryz.prog 58 #[.pointer (some ⟨tb, 0, none⟩), .slice p n c] W fun e W' => ∃ v, e = .returned v ∧ HoldVal W' W.heap.size (.error ([], 19)) v ∧ Below W.heap.size W W' := by
  have n3 : ((n : Int) == 3) = false := by simp; omega
  have n3' : ¬ n = 3 := by omega
  have n0 : ((n : Int) == 0) = false := by simp; omega
  have n0' : ¬ n = 0 := by omega
  have n1 : ((n : Int) == 1) = false := by simp; omega
  have n1' : ¬ n = 1 := by omega
  have n4 : decide ((4 : Int) < n) = true := by simp; omega
  have n4' : (4 : Int) < n := by omega
  have hu := usage_any W
  clear hn
  go_enter Tryz.func58, Tryz.ntmps58
  go_wp2_with fail
  refine hu.mono ?_
  rintro e W1 ⟨v, rfl, hbad, hb⟩
  go_wp2_with fail
  go_ret2
  exact ⟨_, rfl, ⟨_, _, rfl, hbad⟩, hb⟩

/-- Two operands that stand behind a !. -/
theorem flip_val {W : World} {B : Nat} {x : Except Lg.Bad Bool} {b : Bool} {e : Value} (h : BoolVal W B x b e) : HoldVal W B (Lg.flip x) (.tuple #[.bool (!b), e]) := by
  cases x with
  | ok y =>
    obtain ⟨rfl, rfl⟩ := h
    exact ⟨_, _, rfl, rfl, rfl⟩
  | error bad => exact ⟨_, _, rfl, h⟩

set_option maxHeartbeats 1600000 in
set_option maxRecDepth 100000 in
theorem holds2 (a s : Bts) (W : World) (b o c tb : Nat) (hc : 2 ≤ c) (h0 : W.cell? ⟨b, o, none⟩ = some (.string ⟨a.toArray⟩)) (h1 : W.cell? ⟨b, o + 1, none⟩ = some (.string ⟨s.toArray⟩)) (x : Except Lg.Bad Bool)
    (hx : (a = [33] ∧ ∃ y, x = Lg.flip y ∧ Calls Tryz.prog 58 #[.pointer (some ⟨tb, 0, none⟩), .slice (some ⟨b, o + 1, none⟩) 1 (c - 1)] W fun e W' => ∃ v, e = .returned v ∧ HoldVal W' W.heap.size y v ∧ Below W.heap.size W W') ∨ (a ≠ [33] ∧ Lg.unary a s = some x)) :
    Calls Tryz.prog 58 #[.pointer (some ⟨tb, 0, none⟩), .slice (some ⟨b, o, none⟩) 2 c] W fun e W' => ∃ v, e = .returned v ∧ HoldVal W' W.heap.size x v ∧ Below W.heap.size W W' := by
  have c1 : ¬ c - 1 = 0 := by omega
  have c2 : ¬ c ≤ 1 := by omega
  have c3 : 1 ≤ c := by omega
  rcases hx with ⟨rfl, y, rfl, hrec⟩ | ⟨hne, hu⟩
  · clear hc
    go_enter Tryz.func58, Tryz.ntmps58
    go_wp2_with fail
    refine hrec.mono ?_
    rintro e W1 ⟨v, rfl, ⟨b1, e1, rfl, hv⟩, hb⟩
    have HV := Lib.hid hv
    clear hv hrec
    go_wp2_with fail
    go_ret2
    exact ⟨_, rfl, flip_val HV.out, hb⟩
  · have e1 : (a == [33]) = false := by simpa using hne
    obtain ⟨y, rfl, hcu⟩ : ∃ y, x = .ok y ∧ ∀ W, Calls Tryz.prog 97 #[.pointer (some ⟨tb, 0, none⟩), .string ⟨a.toArray⟩, .string ⟨s.toArray⟩] W fun e w' => e = .returned (.tuple #[.bool y, .nilIface]) ∧ w' = W := by
      obtain ⟨y, rfl, -⟩ := unary_any tb a s x hu W
      refine ⟨y, rfl, fun W => ?_⟩
      obtain ⟨z, hz, h⟩ := unary_any tb a s _ hu W
      injection hz with hz
      subst hz
      exact h
    have HU := Lib.hid hcu
    clear hc hcu
    go_enter Tryz.func58, Tryz.ntmps58
    go_wp2_with fail
    go_region_held3 (fun w' => w'.cell? ⟨b, o, none⟩ = some (.string ⟨a.toArray⟩) ∧ w'.cell? ⟨b, o + 1, none⟩ = some (.string ⟨s.toArray⟩)) (first | go_keep | trivial)
      ((go_at_call 97; refine (HU.out _).mono ?_; intro e W1 hq; obtain ⟨he, hw⟩ := hq; subst he; have HB := Lib.hid (show Below W.heap.size W W1 from hw ▸ (Below.refl _ _).drew); have hs : W1.cell? ⟨b, o, none⟩ = some (.string ⟨a.toArray⟩) ∧ W1.cell? ⟨b, o + 1, none⟩ = some (.string ⟨s.toArray⟩) := ⟨hw ▸ h0, hw ▸ h1⟩; clear hw))
    go_wp2_with fail
    go_ret2
    exact ⟨_, rfl, ⟨_, _, rfl, rfl, rfl⟩, HB.out⟩

/-- Three operands of which the second is a way to compare. -/
def Bin3 (tb : Nat) (a op s : Bts) (W : World) (x : Option (Except Lg.Bad Bool)) : Prop := ∀ W', Below W.heap.size W W' → Calls Tryz.prog 96 #[.pointer (some ⟨tb, 0, none⟩), .string ⟨a.toArray⟩, .string ⟨op.toArray⟩, .string ⟨s.toArray⟩] W' fun e w' => ∃ v, e = .returned v ∧ BinVal w' W.heap.size x v ∧ Below W.heap.size W w'

set_option maxHeartbeats 1600000 in
set_option maxRecDepth 100000 in
theorem holds3 (a op s : Bts) (W : World) (b o c tb : Nat) (h0 : W.cell? ⟨b, o, none⟩ = some (.string ⟨a.toArray⟩)) (h1 : W.cell? ⟨b, o + 1, none⟩ = some (.string ⟨op.toArray⟩)) (h2 : W.cell? ⟨b, o + 2, none⟩ = some (.string ⟨s.toArray⟩)) (x : Except Lg.Bad Bool) (hx : Bin3 tb a op s W (some x)) :
    Calls Tryz.prog 58 #[.pointer (some ⟨tb, 0, none⟩), .slice (some ⟨b, o, none⟩) 3 c] W fun e W' => ∃ v, e = .returned v ∧ HoldVal W' W.heap.size x v ∧ Below W.heap.size W W' := by
  have HX := Lib.hid hx
  clear hx
  go_enter Tryz.func58, Tryz.ntmps58
  go_wp2_with fail
  go_region_held3 (fun w' => w'.cell? ⟨b, o, none⟩ = some (.string ⟨a.toArray⟩) ∧ w'.cell? ⟨b, o + 1, none⟩ = some (.string ⟨op.toArray⟩) ∧ w'.cell? ⟨b, o + 2, none⟩ = some (.string ⟨s.toArray⟩)) (first | go_keep | trivial)
    ((go_at_call 96; refine (HX.out _ (by first | exact (Below.refl _ _).drew | exact Below.refl _ _)).mono ?_; rintro e W1 ⟨v, rfl, ⟨b1, e1, rfl, hv⟩, hb⟩; have HV := Lib.hid hv; have HB := Lib.hid hb; have HS : Hid (W1.cell? ⟨b, o, none⟩ = some (.string ⟨a.toArray⟩) ∧ W1.cell? ⟨b, o + 1, none⟩ = some (.string ⟨op.toArray⟩) ∧ W1.cell? ⟨b, o + 2, none⟩ = some (.string ⟨s.toArray⟩)) := Lib.hid ⟨(hb.cell (World.block_lt_of_cell? _ _ h0)).trans h0, (hb.cell (p := ⟨b, o + 1, none⟩) (World.block_lt_of_cell? _ _ h1)).trans h1, (hb.cell (p := ⟨b, o + 2, none⟩) (World.block_lt_of_cell? _ _ h2)).trans h2⟩; clear hv hb))
  go_wp2_with fail
  go_ret2
  exact ⟨_, rfl, ⟨_, _, rfl, HV.out⟩, HB.out⟩

end Go.Proofs.YtfgmmaahbngonaaGreatDoor

/-
  The walks of test's holds of three operands and four; of any list. Conditions: the texts are no longer than memory allows; what the library's variables hold; what is asked is told by the spec.
-/
namespace Go.Proofs.YtfgmmaahbngonaaGreatDoor
open Go.RowKit Go.Shelf Go.Maps

theorem BadAt.lower {W : World} {B B' : Nat} {v : Value} {x : Lg.Bad} (h : BadAt W B v x) (hB : B' ≤ B) : BadAt W B' v x := by
  obtain ⟨q, h1, h2, h3⟩ := h
  exact ⟨q, h1, Nat.le_trans hB h2, h3⟩

set_option maxHeartbeats 1600000 in
set_option maxRecDepth 100000 in
theorem holds3r (a0 a1 a2 : Bts) (W : World) (b o c tb : Nat) (hc : 3 ≤ c) (h0 : W.cell? ⟨b, o, none⟩ = some (.string ⟨a0.toArray⟩)) (h1 : W.cell? ⟨b, o + 1, none⟩ = some (.string ⟨a1.toArray⟩)) (h2 : W.cell? ⟨b, o + 2, none⟩ = some (.string ⟨a2.toArray⟩)) (hb3 : Bin3 tb a0 a1 a2 W none) (x : Except Lg.Bad Bool)
    (hx : (a0 = [33] ∧ ∃ y, x = Lg.flip y ∧ ∀ W1, Below W.heap.size W W1 → Calls Tryz.prog 58 #[.pointer (some ⟨tb, 0, none⟩), .slice (some ⟨b, o + 1, none⟩) 2 (c - 1)] W1 fun e W' => ∃ v, e = .returned v ∧ HoldVal W' W.heap.size y v ∧ Below W.heap.size W W') ∨
      (a0 ≠ [33] ∧ a0 = [40] ∧ a2 = [41] ∧ ∀ W1, Below W.heap.size W W1 → Calls Tryz.prog 58 #[.pointer (some ⟨tb, 0, none⟩), .slice (some ⟨b, o + 1, none⟩) 1 (c - 1)] W1 fun e W' => ∃ v, e = .returned v ∧ HoldVal W' W.heap.size x v ∧ Below W.heap.size W W') ∨
      (a0 ≠ [33] ∧ ¬ (a0 = [40] ∧ a2 = [41]) ∧ x = .error ([], 19))) :
    Calls Tryz.prog 58 #[.pointer (some ⟨tb, 0, none⟩), .slice (some ⟨b, o, none⟩) 3 c] W fun e W' => ∃ v, e = .returned v ∧ HoldVal W' W.heap.size x v ∧ Below W.heap.size W W' := by
  have c1 : ¬ c - 1 = 0 := by omega
  have c2 : ¬ c ≤ 1 := by omega
  have c3 : 1 ≤ c := by omega
  have c4 : 2 ≤ c := by omega
  have c5 : 2 ≤ c - 1 := by omega
  have HX := Lib.hid hb3
  clear hb3
  rcases hx with ⟨ha, y, rfl, hrec⟩ | ⟨hne, ha, hz, hrec⟩ | ⟨hne, hno, rfl⟩
  · have e1 : (a0 == [33]) = true := by simp [ha]
    have HREC := Lib.hid hrec
    clear hrec hc ha
    go_enter Tryz.func58, Tryz.ntmps58
    go_wp2_with fail
    go_region_held3 (fun w' => w'.cell? ⟨b, o, none⟩ = some (.string ⟨a0.toArray⟩) ∧ w'.cell? ⟨b, o + 1, none⟩ = some (.string ⟨a1.toArray⟩) ∧ w'.cell? ⟨b, o + 2, none⟩ = some (.string ⟨a2.toArray⟩)) (first | go_keep | trivial)
      ((go_at_call 96; refine (HX.out _ (by first | exact (Below.refl _ _).drew | exact Below.refl _ _)).mono ?_; rintro e W1 ⟨v, rfl, rfl, hb⟩; have HB := Lib.hid hb; have HS : Hid (W1.cell? ⟨b, o, none⟩ = some (.string ⟨a0.toArray⟩) ∧ W1.cell? ⟨b, o + 1, none⟩ = some (.string ⟨a1.toArray⟩) ∧ W1.cell? ⟨b, o + 2, none⟩ = some (.string ⟨a2.toArray⟩)) := Lib.hid ⟨(hb.cell (p := ⟨b, o, none⟩) (World.block_lt_of_cell? _ _ h0)).trans h0, (hb.cell (p := ⟨b, o + 1, none⟩) (World.block_lt_of_cell? _ _ h1)).trans h1, (hb.cell (p := ⟨b, o + 2, none⟩) (World.block_lt_of_cell? _ _ h2)).trans h2⟩; clear hb))
    obtain ⟨k0, k1, k2⟩ := HS.out
    go_wp2_with fail
    refine (HREC.out _ HB.out).mono ?_
    rintro e W2 ⟨v, rfl, ⟨b1, e1, rfl, hv⟩, hb2⟩
    have HV := Lib.hid hv
    clear hv
    go_wp2_with fail
    go_ret2
    exact ⟨_, rfl, flip_val HV.out, hb2⟩
  · have e1 : (a0 == [33]) = false := by simpa using hne
    have e2 : (a0 == [40]) = true := by simp [ha]
    have e3 : (a2 == [41]) = true := by simp [hz]
    have HREC := Lib.hid hrec
    clear hrec hc hne ha hz
    go_enter Tryz.func58, Tryz.ntmps58
    go_wp2_with fail
    go_region_held3 (fun w' => w'.cell? ⟨b, o, none⟩ = some (.string ⟨a0.toArray⟩) ∧ w'.cell? ⟨b, o + 1, none⟩ = some (.string ⟨a1.toArray⟩) ∧ w'.cell? ⟨b, o + 2, none⟩ = some (.string ⟨a2.toArray⟩)) (first | go_keep | trivial)
      ((go_at_call 96; refine (HX.out _ (by first | exact (Below.refl _ _).drew | exact Below.refl _ _)).mono ?_; rintro e W1 ⟨v, rfl, rfl, hb⟩; have HB := Lib.hid hb; have HS : Hid (W1.cell? ⟨b, o, none⟩ = some (.string ⟨a0.toArray⟩) ∧ W1.cell? ⟨b, o + 1, none⟩ = some (.string ⟨a1.toArray⟩) ∧ W1.cell? ⟨b, o + 2, none⟩ = some (.string ⟨a2.toArray⟩)) := Lib.hid ⟨(hb.cell (p := ⟨b, o, none⟩) (World.block_lt_of_cell? _ _ h0)).trans h0, (hb.cell (p := ⟨b, o + 1, none⟩) (World.block_lt_of_cell? _ _ h1)).trans h1, (hb.cell (p := ⟨b, o + 2, none⟩) (World.block_lt_of_cell? _ _ h2)).trans h2⟩; clear hb))
    obtain ⟨k0, k1, k2⟩ := HS.out
    go_wp2_with fail
    refine (HREC.out _ HB.out).mono ?_
    rintro e W2 ⟨v, rfl, ⟨b1, e1, rfl, hv⟩, hb2⟩
    have HV := Lib.hid hv
    clear hv
    go_wp2_with fail
    go_ret2
    exact ⟨_, rfl, ⟨_, _, rfl, HV.out⟩, hb2⟩
  · have e1 : (a0 == [33]) = false := by simpa using hne
    by_cases h40 : a0 = [40]
    · have e2 : (a2 == [41]) = false := by simpa using fun e => hno ⟨h40, e⟩
      have e3 : (a0 == [40]) = true := by simp [h40]
      clear hc hne hno h40
      go_enter Tryz.func58, Tryz.ntmps58
      go_wp2_with fail
      go_region_held3 (fun w' => w'.cell? ⟨b, o, none⟩ = some (.string ⟨a0.toArray⟩) ∧ w'.cell? ⟨b, o + 1, none⟩ = some (.string ⟨a1.toArray⟩) ∧ w'.cell? ⟨b, o + 2, none⟩ = some (.string ⟨a2.toArray⟩)) (first | go_keep | trivial)
        ((go_at_call 96; refine (HX.out _ (by first | exact (Below.refl _ _).drew | exact Below.refl _ _)).mono ?_; rintro e W1 ⟨v, rfl, rfl, hb⟩; have HB := Lib.hid hb; have HS : Hid (W1.cell? ⟨b, o, none⟩ = some (.string ⟨a0.toArray⟩) ∧ W1.cell? ⟨b, o + 1, none⟩ = some (.string ⟨a1.toArray⟩) ∧ W1.cell? ⟨b, o + 2, none⟩ = some (.string ⟨a2.toArray⟩)) := Lib.hid ⟨(hb.cell (p := ⟨b, o, none⟩) (World.block_lt_of_cell? _ _ h0)).trans h0, (hb.cell (p := ⟨b, o + 1, none⟩) (World.block_lt_of_cell? _ _ h1)).trans h1, (hb.cell (p := ⟨b, o + 2, none⟩) (World.block_lt_of_cell? _ _ h2)).trans h2⟩; clear hb))
      obtain ⟨k0, k1, k2⟩ := HS.out
      go_wp2_with fail
      refine (usage_any _).mono ?_
      rintro e W2 ⟨v, rfl, hbad, hb2⟩
      have HBAD := Lib.hid hbad
      have HB2 := Lib.hid (HB.out.trans (hb2.mono HB.out.size))
      clear hbad hb2
      go_wp2_with fail
      go_ret2
      exact ⟨_, rfl, ⟨_, _, rfl, BadAt.lower HBAD.out HB.out.size⟩, HB2.out⟩
    · have e2 : (a0 == [40]) = false := by simpa using h40
      clear hc hne hno h40
      go_enter Tryz.func58, Tryz.ntmps58
      go_wp2_with fail
      go_region_held3 (fun w' => w'.cell? ⟨b, o, none⟩ = some (.string ⟨a0.toArray⟩) ∧ w'.cell? ⟨b, o + 1, none⟩ = some (.string ⟨a1.toArray⟩) ∧ w'.cell? ⟨b, o + 2, none⟩ = some (.string ⟨a2.toArray⟩)) (first | go_keep | trivial)
        ((go_at_call 96; refine (HX.out _ (by first | exact (Below.refl _ _).drew | exact Below.refl _ _)).mono ?_; rintro e W1 ⟨v, rfl, rfl, hb⟩; have HB := Lib.hid hb; have HS : Hid (W1.cell? ⟨b, o, none⟩ = some (.string ⟨a0.toArray⟩) ∧ W1.cell? ⟨b, o + 1, none⟩ = some (.string ⟨a1.toArray⟩) ∧ W1.cell? ⟨b, o + 2, none⟩ = some (.string ⟨a2.toArray⟩)) := Lib.hid ⟨(hb.cell (p := ⟨b, o, none⟩) (World.block_lt_of_cell? _ _ h0)).trans h0, (hb.cell (p := ⟨b, o + 1, none⟩) (World.block_lt_of_cell? _ _ h1)).trans h1, (hb.cell (p := ⟨b, o + 2, none⟩) (World.block_lt_of_cell? _ _ h2)).trans h2⟩; clear hb))
      obtain ⟨k0, k1, k2⟩ := HS.out
      go_wp2_with fail
      refine (usage_any _).mono ?_
      rintro e W2 ⟨v, rfl, hbad, hb2⟩
      have HBAD := Lib.hid hbad
      have HB2 := Lib.hid (HB.out.trans (hb2.mono HB.out.size))
      clear hbad hb2
      go_wp2_with fail
      go_ret2
      exact ⟨_, rfl, ⟨_, _, rfl, BadAt.lower HBAD.out HB.out.size⟩, HB2.out⟩

set_option maxHeartbeats 1600000 in
set_option maxRecDepth 100000 in
theorem holds4r (a0 a3 : Bts) (W : World) (b o c tb : Nat) (hc : 4 ≤ c) (h0 : W.cell? ⟨b, o, none⟩ = some (.string ⟨a0.toArray⟩)) (h3 : W.cell? ⟨b, o + 3, none⟩ = some (.string ⟨a3.toArray⟩)) (x : Except Lg.Bad Bool)
    (hx : (a0 = [33] ∧ ∃ y, x = Lg.flip y ∧ ∀ W1, Below W.heap.size W W1 → Calls Tryz.prog 58 #[.pointer (some ⟨tb, 0, none⟩), .slice (some ⟨b, o + 1, none⟩) 3 (c - 1)] W1 fun e W' => ∃ v, e = .returned v ∧ HoldVal W' W.heap.size y v ∧ Below W.heap.size W W') ∨
      (a0 ≠ [33] ∧ a0 = [40] ∧ a3 = [41] ∧ ∀ W1, Below W.heap.size W W1 → Calls Tryz.prog 58 #[.pointer (some ⟨tb, 0, none⟩), .slice (some ⟨b, o + 1, none⟩) 2 (c - 1)] W1 fun e W' => ∃ v, e = .returned v ∧ HoldVal W' W.heap.size x v ∧ Below W.heap.size W W') ∨
      (a0 ≠ [33] ∧ ¬ (a0 = [40] ∧ a3 = [41]) ∧ x = .error ([], 19))) :
    Calls Tryz.prog 58 #[.pointer (some ⟨tb, 0, none⟩), .slice (some ⟨b, o, none⟩) 4 c] W fun e W' => ∃ v, e = .returned v ∧ HoldVal W' W.heap.size x v ∧ Below W.heap.size W W' := by
  have c1 : ¬ c - 1 = 0 := by omega
  have c2 : ¬ c ≤ 1 := by omega
  have c3 : 1 ≤ c := by omega
  have c4 : 3 ≤ c := by omega
  have c5 : 3 ≤ c - 1 := by omega
  rcases hx with ⟨ha, y, rfl, hrec⟩ | ⟨hne, ha, hz, hrec⟩ | ⟨hne, hno, rfl⟩
  · have e1 : (a0 == [33]) = true := by simp [ha]
    have HREC := Lib.hid hrec
    clear hrec hc ha
    go_enter Tryz.func58, Tryz.ntmps58
    go_wp2_with fail
    have HB : Hid (Below W.heap.size W W) := Lib.hid (Below.refl _ _)
    refine (HREC.out _ HB.out).mono ?_
    rintro e W2 ⟨v, rfl, ⟨b1, e1, rfl, hv⟩, hb2⟩
    have HV := Lib.hid hv
    clear hv
    go_wp2_with fail
    go_ret2
    exact ⟨_, rfl, flip_val HV.out, hb2⟩
  · have e1 : (a0 == [33]) = false := by simpa using hne
    have e2 : (a0 == [40]) = true := by simp [ha]
    have e3 : (a3 == [41]) = true := by simp [hz]
    have HREC := Lib.hid hrec
    clear hrec hc hne ha hz
    go_enter Tryz.func58, Tryz.ntmps58
    go_wp2_with fail
    have HB : Hid (Below W.heap.size W W) := Lib.hid (Below.refl _ _)
    refine (HREC.out _ HB.out).mono ?_
    rintro e W2 ⟨v, rfl, ⟨b1, e1, rfl, hv⟩, hb2⟩
    have HV := Lib.hid hv
    clear hv
    go_wp2_with fail
    go_ret2
    exact ⟨_, rfl, ⟨_, _, rfl, HV.out⟩, hb2⟩
  · have e1 : (a0 == [33]) = false := by simpa using hne
    by_cases h40 : a0 = [40]
    · have e2 : (a3 == [41]) = false := by simpa using fun e => hno ⟨h40, e⟩
      have e3 : (a0 == [40]) = true := by simp [h40]
      clear hc hne hno h40
      go_enter Tryz.func58, Tryz.ntmps58
      go_wp2_with fail
      have HB : Hid (Below W.heap.size W W) := Lib.hid (Below.refl _ _)
      refine (usage_any _).mono ?_
      rintro e W2 ⟨v, rfl, hbad, hb2⟩
      have HBAD := Lib.hid hbad
      have HB2 := Lib.hid (HB.out.trans (hb2.mono HB.out.size))
      clear hbad hb2
      go_wp2_with fail
      go_ret2
      exact ⟨_, rfl, ⟨_, _, rfl, BadAt.lower HBAD.out HB.out.size⟩, HB2.out⟩
    · have e2 : (a0 == [40]) = false := by simpa using h40
      clear hc hne hno h40
      go_enter Tryz.func58, Tryz.ntmps58
      go_wp2_with fail
      have HB : Hid (Below W.heap.size W W) := Lib.hid (Below.refl _ _)
      refine (usage_any _).mono ?_
      rintro e W2 ⟨v, rfl, hbad, hb2⟩
      have HBAD := Lib.hid hbad
      have HB2 := Lib.hid (HB.out.trans (hb2.mono HB.out.size))
      clear hbad hb2
      go_wp2_with fail
      go_ret2
      exact ⟨_, rfl, ⟨_, _, rfl, BadAt.lower HBAD.out HB.out.size⟩, HB2.out⟩

theorem ss_sub {W : World} {b o : Nat} {l : List Bts} (h : ∀ i, i < l.length → W.cell? ⟨b, o + i, none⟩ = some (strV (l.getD i []))) (k : Nat) (l' : List Bts) (hs : ∀ i, i < l'.length → k + i < l.length ∧ l'.getD i [] = l.getD (k + i) []) {W' : World} (hb : Below W.heap.size W W') : Ss W' (some ⟨b, o + k, none⟩) l' := fun _ => ⟨b, o + k, rfl, fun i hi => by
  obtain ⟨h1, h2⟩ := hs i hi
  rw [h2, Nat.add_assoc]
  exact (hb.cell (p := ⟨b, o + (k + i), none⟩) (World.block_lt_of_cell? _ _ (h _ h1))).trans (h _ h1)⟩
theorem hold_lift {W W1 : World} {g : Nat} {args : Array Value} {x : Except Lg.Bad Bool} (hb : Below W.heap.size W W1) (h : Calls Tryz.prog g args W1 fun e W' => ∃ v, e = .returned v ∧ HoldVal W' W1.heap.size x v ∧ Below W1.heap.size W1 W') : Calls Tryz.prog g args W1 fun e W' => ∃ v, e = .returned v ∧ HoldVal W' W.heap.size x v ∧ Below W.heap.size W W' :=
  h.mono fun e W' ⟨v, he, ⟨b, e1, hv, hx⟩, hb2⟩ => ⟨v, he, ⟨b, e1, hv, by
    cases x with
    | ok _ => exact hx
    | error bad => exact BadAt.lower hx hb.size⟩, hb.trans (hb2.mono hb.size)⟩
theorem map_flip {o : Option (Except Lg.Bad Bool)} {x : Except Lg.Bad Bool} (h : o.map Lg.flip = some x) : ∃ y, o = some y ∧ x = Lg.flip y := by
  cases o with
  | none => cases h
  | some y => injection h with h; exact ⟨y, rfl, h.symm⟩

set_option maxRecDepth 100000 in
theorem holds_all : ∀ f, HoldsC f
  | 0 => by intro l x hx; cases hx
  | f + 1 => by
    have IH := holds_all f
    intro l x hx hl W p c tb pp mf mo hc hs hg ht
    unfold Lg.holds at hx
    rcases l with _ | ⟨a, _ | ⟨s, _ | ⟨t, _ | ⟨u, _ | ⟨v, r⟩⟩⟩⟩⟩
    · injection hx with hx; subst hx
      exact holds0 W p c tb
    · injection hx with hx; subst hx
      obtain ⟨b, o, rfl, hcell⟩ := ss_at hs (by simp)
      exact holds1 a W b o c tb (hcell 0 (by simp))
    · obtain ⟨b, o, rfl, hcell⟩ := ss_at hs (by simp)
      refine holds2 a s W b o c tb (by simpa using hc) (hcell 0 (by simp)) (hcell 1 (by simp)) x ?_
      simp only [List.length_cons, List.length_nil, Nat.reduceAdd, Nat.reduceLT, if_false] at hx
      by_cases h1 : a = [33]
      · left
        rw [if_pos h1] at hx
        obtain ⟨y, hy, rfl⟩ := map_flip hx
        exact ⟨h1, y, rfl, IH [s] y hy (fun z hz => hl z (by simp_all)) W (some ⟨b, o + 1, none⟩) (c - 1) tb pp mf mo (by simp at hc ⊢; omega) (ss_sub hcell 1 [s] (by
          intro i hi
          obtain rfl : i = 0 := by simpa using hi
          exact ⟨by simp, rfl⟩) (Below.refl _ _)) hg ht⟩
      · right
        rw [if_neg h1] at hx
        exact ⟨h1, by simpa using hx⟩
    · obtain ⟨b, o, rfl, hcell⟩ := ss_at hs (by simp)
      have hb3 : ∀ z, Lg.binary a s t = z → Bin3 tb a s t W z := by
        rintro z rfl W' hb
        refine (binary_any tb pp mf mo a s t (hl a (by simp)) (hl s (by simp)) (hl t (by simp)) W' (hg.below hb) (ht.below hb)).mono ?_
        rintro e w' ⟨v, rfl, hv, hb2⟩
        refine ⟨v, rfl, ?_, hb.trans (hb2.mono hb.size)⟩
        cases hbin : Lg.binary a s t with
        | none => rw [hbin] at hv; exact hv
        | some y =>
          rw [hbin] at hv
          obtain ⟨b1, e1, rfl, hv⟩ := hv
          refine ⟨b1, e1, rfl, ?_⟩
          cases y with
          | ok _ => exact hv
          | error bad => exact BadAt.lower hv hb.size
      simp only at hx
      cases hbin : Lg.binary a s t with
      | some y =>
        rw [hbin] at hx
        injection hx with hx; subst hx
        exact holds3 a s t W b o c tb (hcell 0 (by simp)) (hcell 1 (by simp)) (hcell 2 (by simp)) y (hb3 _ hbin)
      | none =>
        rw [hbin] at hx
        simp only [List.length_cons, List.length_nil, Nat.reduceAdd, Nat.reduceLT, if_false] at hx
        refine holds3r a s t W b o c tb (by simpa using hc) (hcell 0 (by simp)) (hcell 1 (by simp)) (hcell 2 (by simp)) (hb3 _ hbin) x ?_
        by_cases h1 : a = [33]
        · left
          rw [if_pos h1] at hx
          obtain ⟨y, hy, rfl⟩ := map_flip hx
          exact ⟨h1, y, rfl, fun W1 hb1 => hold_lift hb1 (IH [s, t] y hy (fun z hz => hl z (by simp only [List.mem_cons, List.not_mem_nil, or_false] at hz ⊢; first | exact .inr hz | (rcases hz with h | h <;> simp [h]))) W1 (some ⟨b, o + 1, none⟩) (c - 1) tb pp mf mo (by simp at hc ⊢; omega) (ss_sub hcell 1 [s, t] (by
            intro i hi
            have hi : i < 2 := hi
            rcases (show i = 0 ∨ i = 1 by omega) with rfl | rfl
            · exact ⟨by simp, rfl⟩
            · exact ⟨by simp, rfl⟩) hb1) (hg.below hb1) (ht.below hb1))⟩
        · right
          rw [if_neg h1, if_neg (by simp)] at hx
          by_cases h2 : a = [40] ∧ t = [41]
          · left
            rw [if_pos ⟨h2.1, by simp [h2.2]⟩] at hx
            exact ⟨h1, h2.1, h2.2, fun W1 hb1 => hold_lift hb1 (IH [s] x hx (fun z hz => hl z (by simp_all)) W1 (some ⟨b, o + 1, none⟩) (c - 1) tb pp mf mo (by simp at hc ⊢; omega) (ss_sub hcell 1 [s] (by
              intro i hi
              obtain rfl : i = 0 := by simpa using hi
              exact ⟨by simp, rfl⟩) hb1) (hg.below hb1) (ht.below hb1))⟩
          · right
            rw [if_neg (by rintro ⟨e1, e2⟩; exact h2 ⟨e1, by simpa using e2⟩)] at hx
            injection hx with hx
            exact ⟨h1, h2, hx.symm⟩
    · obtain ⟨b, o, rfl, hcell⟩ := ss_at hs (by simp)
      simp only [List.length_cons, List.length_nil, Nat.reduceAdd, if_false, Nat.lt_irrefl] at hx
      refine holds4r a u W b o c tb (by simpa using hc) (hcell 0 (by simp)) (hcell 3 (by simp)) x ?_
      by_cases h1 : a = [33]
      · left
        rw [if_pos h1] at hx
        obtain ⟨y, hy, rfl⟩ := map_flip hx
        exact ⟨h1, y, rfl, fun W1 hb1 => hold_lift hb1 (IH [s, t, u] y hy (fun z hz => hl z (by simp only [List.mem_cons, List.not_mem_nil, or_false] at hz ⊢; first | exact .inr hz | (rcases hz with h | h <;> simp [h]))) W1 (some ⟨b, o + 1, none⟩) (c - 1) tb pp mf mo (by simp at hc ⊢; omega) (ss_sub hcell 1 [s, t, u] (by
          intro i hi
          have hi : i < 3 := hi
          rcases (show i = 0 ∨ i = 1 ∨ i = 2 by omega) with rfl | rfl | rfl
          · exact ⟨by simp, rfl⟩
          · exact ⟨by simp, rfl⟩
          · exact ⟨by simp, rfl⟩) hb1) (hg.below hb1) (ht.below hb1))⟩
      · right
        rw [if_neg h1, if_neg (by simp)] at hx
        by_cases h2 : a = [40] ∧ u = [41]
        · left
          rw [if_pos ⟨h2.1, by simp [h2.2]⟩] at hx
          exact ⟨h1, h2.1, h2.2, fun W1 hb1 => hold_lift hb1 (IH [s, t] x hx (fun z hz => hl z (by simp only [List.mem_cons, List.not_mem_nil, or_false] at hz ⊢; first | exact .inr hz | (rcases hz with h | h <;> simp [h]))) W1 (some ⟨b, o + 1, none⟩) (c - 1) tb pp mf mo (by simp at hc ⊢; omega) (ss_sub hcell 1 [s, t] (by
            intro i hi
            have hi : i < 2 := hi
            rcases (show i = 0 ∨ i = 1 by omega) with rfl | rfl
            · exact ⟨by simp, rfl⟩
            · exact ⟨by simp, rfl⟩) hb1) (hg.below hb1) (ht.below hb1))⟩
        · right
          rw [if_neg (by rintro ⟨e1, e2⟩; exact h2 ⟨e1, by simpa using e2⟩)] at hx
          injection hx with hx
          exact ⟨h1, h2, hx.symm⟩
    · simp only [List.length_cons] at hx
      rw [if_pos (by omega)] at hx
      injection hx with hx; subst hx
      exact holds5 _ (by simp) W p c tb

end Go.Proofs.YtfgmmaahbngonaaGreatDoor
