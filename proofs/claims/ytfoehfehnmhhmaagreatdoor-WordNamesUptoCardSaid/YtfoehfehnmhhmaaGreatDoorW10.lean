/-
  The walks of told, joined, pattern. Conditions: lengths that no machine holds.
-/
import Derived.Test.YtfoehfehnmhhmaaGreatDoorW9
import Derived.Test.YtfoehfehnmhhmaaGreatDoorStr
import Derived.Handy
namespace Go.Proofs.YtfoehfehnmhhmaaGreatDoor
open Go.RowKit Go.Shelf Go.Maps

theorem told_mark (w : World) : Calls Tryz.prog 147 #[.agg #[]] w fun e w' => e = .returned (.string ⟨#[]⟩) ∧ Below w.heap.size w w' := by
  go_enter Tryz.func147, Tryz.ntmps147
  go_wp2_with fail
  go_ret
  exact ⟨rfl, (Below.refl _ w).alloc (Nat.le_refl _) _⟩

theorem told_gap (w : World) : Calls Tryz.prog 149 #[.agg #[]] w fun e w' => e = .returned (.string ⟨#[]⟩) ∧ Below w.heap.size w w' := by
  go_enter Tryz.func149, Tryz.ntmps149
  go_wp2_with fail
  go_ret
  exact ⟨rfl, (Below.refl _ w).alloc (Nat.le_refl _) _⟩

theorem bs_one (w : World) (c : UInt8) (T : TypeId) : Bs (w.alloc (.cells #[.int .u8 c.toNat] T)) (some ⟨w.heap.size, 0, none⟩) [c] := by
  intro _
  refine ⟨w.heap.size, 0, rfl, fun i hi => ?_⟩
  obtain rfl : i = 0 := by simpa using hi
  rw [Lib.cell_of_heap (heap_alloc_new w _)]
  rfl

set_option maxRecDepth 100000 in
theorem told_char (c : UInt8) (q s : Bool) (w : World) : Calls Tryz.prog 150 #[.agg #[.int .u8 c.toNat, .bool q, .bool s]] w fun e w' => e = .returned (.string ⟨#[c]⟩) ∧ Below w.heap.size w w' := by
  have hcv : (convert 29 9 (.slice (some ⟨w.heap.size + 1, 0, none⟩) 1 1)).run Tryz.prog ((w.alloc (.cells #[.int .u8 c.toNat, .bool q, .bool s] 87)).alloc (.cells #[.int .u8 c.toNat] 5)) = .ok (.string ⟨#[c]⟩) ((w.alloc (.cells #[.int .u8 c.toNat, .bool q, .bool s] 87)).alloc (.cells #[.int .u8 c.toNat] 5)) := by
    have h := run_str (bs_one (w.alloc (.cells #[.int .u8 c.toNat, .bool q, .bool s] 87)) c 5) 1
    rw [show (w.alloc (.cells #[.int .u8 c.toNat, .bool q, .bool s] 87)).heap.size = w.heap.size + 1 by simp] at h
    exact h
  go_enter Tryz.func150, Tryz.ntmps150
  go_wp2_with fail
  go_ret
  exact ⟨rfl, ((Below.refl _ w).alloc (Nat.le_refl _) _).alloc (by simp) _⟩

/-- A byte's cells. -/
theorem strCells_list (s : Wd.Bytes) : Lib.strCells ⟨s.toArray⟩ = Lib.byteCells s := rfl
theorem Bld.fresh (w : World) : Bld (w.alloc (.cells #[.pointer none, .slice none 0 0] 73)) w.heap.size w.heap.size [] := Lib.fresh_isBuilder _ _ w
theorem Bld.len {w : World} {B b : Nat} {s : Wd.Bytes} (h : Bld w B b s) : B ≤ b ∧ b < w.heap.size := by
  rcases h with h | h <;> exact ⟨h.1, h.lt⟩
theorem builderAt_below {T e : TypeId} {B b : Nat} {p : Value} {bs : List Value} {w w' : World} (h : Lib.BuilderAt T e B b p bs w) (hb : Below w.heap.size w w') : Lib.BuilderAt T e B b p bs w' := by
  have hlt := h.lt
  obtain ⟨h1, v, h2, h3, h4⟩ := h
  refine ⟨h1, v, (hb.block b hlt).trans h2, own_kept h3 (Kept.of_below (S := fun k => w.heap.size ≤ k) hb) (fun k hk => ?_), h4⟩
  have := (h3.lt k hk).2
  omega
theorem Bld.below {w w' : World} {B b : Nat} {s : Wd.Bytes} (h : Bld w B b s) (hb : Below w.heap.size w w') : Bld w' B b s := by
  rcases h with h | h
  · exact .inl (builderAt_below h hb)
  · exact .inr (builderAt_below h hb)
theorem writeS (B b : Nat) (s t : Wd.Bytes) (w : World) (h : Bld w B b s) (hlen : s.length + t.length ≤ 140737488355328) (hB : B ≤ w.heap.size) :
    Calls Tryz.prog 39 #[.pointer (some ⟨b, 0, none⟩), .string ⟨t.toArray⟩] w fun e w' => e = .returned (.tuple #[.int .i64 t.length, .nilIface]) ∧ Bld w' B b (s ++ t) ∧ Below B w w' := by
  refine (WriteString_any B b (Lib.byteCells s) ⟨t.toArray⟩ w h (by rw [Lib.byteCells_length]; exact hlen) hB).mono ?_
  rintro e w' ⟨rfl, h1, h2⟩
  refine ⟨rfl, ?_, h2⟩
  rw [strCells_list, ← Lib.byteCells_append] at h1
  exact .inr h1
theorem writeB (B b : Nat) (s : Wd.Bytes) (c : UInt8) (w : World) (h : Bld w B b s) (hlen : s.length + 1 ≤ 140737488355328) (hB : B ≤ w.heap.size) :
    Calls Tryz.prog 99 #[.pointer (some ⟨b, 0, none⟩), .int .u8 c.toNat] w fun e w' => e = .returned .nilIface ∧ Bld w' B b (s ++ [c]) ∧ Below B w w' := by
  refine (WriteByte_any B b (Lib.byteCells s) c.toNat w h (by rw [Lib.byteCells_length]; exact hlen) hB).mono ?_
  rintro e w' ⟨rfl, h1, h2⟩
  refine ⟨rfl, ?_, h2⟩
  rw [show [Value.int .u8 (c.toNat : Int)] = Lib.byteCells [c] from rfl, ← Lib.byteCells_append] at h1
  exact .inr h1

theorem builderX : Builder.Extra Tryz.prog Tryz.lays169_ren := {
  sizeBuilder := by kernel_rfl
  liesBuilder := by kernel_rfl
  t5 := Tryz.underlying5
  a5 := Tryz.isAgg5
  z5 := Tryz.sizeOf5
  v5 := Tryz.zeroValue5
  infoByte := by kernel_rfl
  cellsByte := by kernel_rfl
  sizeByte := by kernel_rfl
  neB5 := by decide }
theorem stringB (B b : Nat) (s : Wd.Bytes) (w : World) (h : Bld w B b s) (hB : B ≤ w.heap.size) :
    Calls Tryz.prog 40 #[.pointer (some ⟨b, 0, none⟩)] w fun e w' => e = .returned (.string ⟨s.toArray⟩) ∧ Below B w w' :=
  Any.Builder_String_any Tryz.lays169 builderX B b s w h hB

theorem joined_take {l : List Wd.Un} {i : Nat} (hi : i < l.length) : Wd.joined (l.take (i + 1)) = Wd.joined (l.take i) ++ l[i].told := by
  rw [List.take_succ_eq_append_getElem hi]
  simp only [Wd.joined, List.flatMap_append, List.flatMap_cons, List.flatMap_nil, List.append_nil]
theorem Un_told_len (u : Wd.Un) : u.told.length ≤ 1 := by cases u <;> simp [Wd.Un.told]
theorem joined_len (l : List Wd.Un) : (Wd.joined l).length ≤ l.length := by
  induction l with
  | nil => simp [Wd.joined]
  | cons u r ih =>
    have := Un_told_len u
    simp only [Wd.joined, List.flatMap_cons, List.length_append, List.length_cons] at ih ⊢
    omega

set_option maxHeartbeats 3200000 in
set_option maxRecDepth 100000 in
theorem joined_any (B : Nat) (v : Value) (l : List Wd.Un) (w : World) (h : w.ownsRow B 75 1 v l.length (l.map unV)) (hl : l.length ≤ 4294967296) :
    Calls Tryz.prog 22 #[v] w fun e w' => e = .returned (.string ⟨(Wd.joined l).toArray⟩) ∧ Below w.heap.size w w' := by
  have hcell : ∀ i (hi : i < l.length), ∀ g c n, v = .slice (some ⟨g, 0, none⟩) n c → w.cell? ⟨g, i, none⟩ = some (unV l[i]) ∧ g < w.heap.size := by
    rintro i hi g c n rfl
    have h1 := h.cells (g := g) rfl i (unV l[i]) (by simp [hi])
    rw [show ((⟨g, 0, none⟩ : Addr).add i) = ⟨g, i, none⟩ by simp only [Addr.add, Nat.zero_add]; split <;> simp_all] at h1
    exact ⟨h1, World.block_lt_of_cell? _ _ h1⟩
  have HW := Lib.hid h
  obtain ⟨o, c, rfl⟩ : ∃ o c, v = .slice o l.length c := by
    rcases h.2 with ⟨h1, h2⟩ | ⟨g, cap, cur, hg, hb, r⟩
    · exact ⟨_, _, by rw [h2]; exact h1⟩
    · exact ⟨_, _, hg⟩
  have HC := Lib.hid hcell
  clear h hcell
  go_enter Tryz.func22, Tryz.ntmps22
  go_wp2_with fail
  go_loopw [5, 8] (fun _ x8 wr => ∃ (i : Nat), i ≤ l.length ∧ x8 = .int .i64 i ∧ Hid (Bld wr w.heap.size w.heap.size (Wd.joined (l.take i)) ∧ Below w.heap.size w wr)) (fun _ x8 _ => l.length - (intOf x8).toNat)
  case atStart => exact ⟨0, Nat.zero_le _, rfl, Bld.fresh w, (Below.refl _ w).alloc (Nat.le_refl _) _⟩
  case round =>
    obtain ⟨i, hi, rfl, HX⟩ := hrel
    by_cases hlt : i < l.length
    · have ic : (i : Int) < (l.length : Nat) := by omega
      obtain ⟨g, rfl⟩ : ∃ g, o = some ⟨g, 0, none⟩ := by
        rcases HW.out.2 with ⟨h1, h2⟩ | ⟨g, cap, cur, hg, hb, r⟩
        · omega
        · exact ⟨g, by injection hg⟩
      obtain ⟨hc, hg⟩ := HC.out i hlt g c _ rfl
      have hc2 : wr.cell? ⟨g, i, none⟩ = some (unV l[i]) := by rw [HX.out.2.cell (p := ⟨g, i, none⟩) hg]; exact hc
      clear hc
      obtain ⟨u, hu⟩ : ∃ u, l[i] = u := ⟨_, rfl⟩
      have HJ := joined_take hlt
      have hj := joined_len (l.take i)
      rw [List.length_take] at hj
      rw [hu] at hc2 HJ
      have HJ' := Lib.hid HJ
      clear HJ hu
      have HB := Lib.hid HX.out
      have hbs := HB.out.2.size
      have G : ∀ (t : Wd.Bytes) (w2 : World), u.told = t → Below wr.heap.size wr w2 → Calls Tryz.prog 39 #[.pointer (some ⟨w.heap.size, 0, none⟩), .string ⟨t.toArray⟩] w2 fun e w' => e = .returned (.tuple #[.int .i64 t.length, .nilIface]) ∧ Hid (Bld w' w.heap.size w.heap.size (Wd.joined (l.take (i + 1))) ∧ Below w.heap.size w w') := by
        intro t w2 ht hb2
        have hb3 : Below w.heap.size wr w2 := hb2.mono hbs
        have hbl : Bld w2 w.heap.size w.heap.size (Wd.joined (l.take i)) := Bld.below HB.out.1 hb2
        have htl := Un_told_len u
        rw [ht] at htl
        refine (writeS _ _ _ t w2 hbl (by omega) (Nat.le_trans hbs hb2.size)).mono ?_
        rintro e w' ⟨rfl, h1, h2⟩
        refine ⟨rfl, ?_, (HB.out.2.trans hb3).trans h2⟩
        rw [HJ'.out, ht]
        exact h1
      have G' := Lib.hid G
      clear G
      cases u with
      | char k q t =>
        simp only [unV] at hc2
        go_wp2_with fail
        refine (told_char k q t _).mono ?_
        rintro e w2 ⟨rfl, hb2⟩
        have hG := G'.out [k] w2 rfl hb2
        clear hb2
        go_wp2_with fail
        refine hG.mono ?_
        rintro e w3 ⟨rfl, hG2⟩
        clear hG
        go_wp2_with fail
        refine ⟨⟨i + 1, by omega, by go_num, hG2⟩, ?_⟩
        show l.length - ((i : Int) + 1).toNat < l.length - (i : Int).toNat
        omega
      | mark =>
        simp only [unV] at hc2
        go_wp2_with fail
        refine (told_mark _).mono ?_
        rintro e w2 ⟨rfl, hb2⟩
        have hG := G'.out [] w2 rfl hb2
        clear hb2
        go_wp2_with fail
        refine hG.mono ?_
        rintro e w3 ⟨rfl, hG2⟩
        clear hG
        go_wp2_with fail
        refine ⟨⟨i + 1, by omega, by go_num, hG2⟩, ?_⟩
        show l.length - ((i : Int) + 1).toNat < l.length - (i : Int).toNat
        omega
      | gap =>
        simp only [unV] at hc2
        go_wp2_with fail
        refine (told_gap _).mono ?_
        rintro e w2 ⟨rfl, hb2⟩
        have hG := G'.out [] w2 rfl hb2
        clear hb2
        go_wp2_with fail
        refine hG.mono ?_
        rintro e w3 ⟨rfl, hG2⟩
        clear hG
        go_wp2_with fail
        refine ⟨⟨i + 1, by omega, by go_num, hG2⟩, ?_⟩
        show l.length - ((i : Int) + 1).toNat < l.length - (i : Int).toNat
        omega
    · obtain rfl : i = l.length := by omega
      have hs := stringB w.heap.size w.heap.size _ wr HX.out.1 HX.out.2.size
      rw [List.take_length] at hs
      go_wp2_with fail
      refine hs.mono ?_
      rintro e w2 ⟨rfl, hb2⟩
      have HB := Lib.hid hb2
      clear hb2 hs
      go_wp2_with fail
      go_ret
      exact ⟨rfl, HX.out.2.trans HB.out⟩

end Go.Proofs.YtfoehfehnmhhmaaGreatDoor
