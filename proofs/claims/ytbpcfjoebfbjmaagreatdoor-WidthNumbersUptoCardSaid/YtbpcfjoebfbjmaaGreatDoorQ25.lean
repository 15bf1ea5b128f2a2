/-
  Texts of this seat put together: Rp3, Rp4, St1, St2.
-/
import Derived.Test.YtbpcfjoebfbjmaaGreatDoorQ24
import Derived.Defers
import Derived.Laws.NewBlocks
import Derived.Test.YtbpcfjoebfbjmaaGreatDoorQ17
import Derived.Test.YtbpcfjoebfbjmaaGreatDoorQ22

/-
  The walk of a replacer's Replace: blanks by commas. Condition: lengths.
-/
namespace Go.Proofs.YtbpcfjoebfbjmaaGreatDoor.Rp
open Go.RowKit Go.Shelf

/-- Bytes that lie in a block and may be turned. -/
def RowB (W : World) (g : Nat) (l : Bts) : Prop := ∀ j, j < l.length → W.cell? ⟨g, j, none⟩ = some (.int .u8 (l.getD j 0).toNat) ∧ W.frozen? ⟨g, j, none⟩ = false
theorem RowB.set {W : World} {g : Nat} {l : Bts} (h : RowB W g l) (k : Nat) (hk : k < l.length) (c : UInt8) : RowB (W.setCell ⟨g, k, none⟩ (.int .u8 c.toNat)) g (l.set k c) := fun j hj => by
  rw [List.length_set] at hj
  refine ⟨?_, by rw [World.frozen?_setCell]; exact (h j hj).2⟩
  by_cases e : j = k
  · subst e
    rw [World.cell?_setCell_same _ _ _ (h j hj).1]
    simp [List.getD_eq_getElem?_getD, hj]
  · rw [World.cell?_setCell_other _ ⟨g, k, none⟩ ⟨g, j, none⟩ _ (by simp <;> omega), (h j hj).1]
    have : (l.set k c).getD j 0 = l.getD j 0 := by
      rw [List.getD_eq_getElem?_getD, List.getD_eq_getElem?_getD, List.getElem?_set_ne (Ne.symm e)]
    rw [this]
theorem RowB.bs {W : World} {g : Nat} {l : Bts} (h : RowB W g l) : Bs W (some ⟨g, 0, none⟩) l := fun _ => ⟨g, 0, rfl, fun i hi => by rw [Nat.zero_add]; exact (h i hi).1⟩
theorem conv_row (l : Bts) (w : World) : ∃ c w1, (convert 9 22 (.string ⟨l.toArray⟩)).run Tryz.prog w = .ok (.slice (some ⟨w.heap.size, 0, none⟩) l.length c) w1 ∧ l.length ≤ c ∧ Below w.heap.size w w1 ∧ RowB w1 w.heap.size l := by
  have hsz : (⟨l.toArray⟩ : ByteArray).size = l.length := by simp [ByteArray.size]
  have h := Lib.run_convert_string_bytes (P := Tryz.prog) w 9 22 5 ⟨l.toArray⟩ Tryz.underlying9 Tryz.underlying22 Tryz.underlying5
  rw [hsz] at h
  refine ⟨_, _, h, grownCap_ge _ _ _ _, Lib.bytesWorld_below w 5 ⟨l.toArray⟩, fun j hj => ⟨Lib.bytesWorld_cell w 5 ⟨l.toArray⟩ j (by rw [hsz]; exact hj), ?_⟩⟩
  unfold World.frozen?
  have hs2 : l.length ≤ (Lib.bytesCells w 5 ⟨l.toArray⟩).size := by simp [Lib.bytesCells]
  simp only [Lib.bytesWorld_at_new]
  simp
  omega

theorem map_step (s : Bts) (k : Nat) (hk : k < s.length) (c : UInt8) (hc : rep s[k] = c) : ((s.take k).map rep ++ s.drop k).set k c = (s.take (k + 1)).map rep ++ s.drop (k + 1) := by
  have hl : ((s.take k).map rep).length = k := by rw [List.length_map, List.length_take]; omega
  rw [List.drop_eq_getElem_cons hk, List.take_succ_eq_append_getElem hk, List.map_append, List.append_assoc, List.set_append_right _ _ (by omega), hl, Nat.sub_self, List.set_cons_zero]
  rw [← hc]
  rfl
theorem map_still (s : Bts) (k : Nat) (hk : k < s.length) (hc : rep s[k] = s[k]) : (s.take k).map rep ++ s.drop k = (s.take (k + 1)).map rep ++ s.drop (k + 1) := by
  rw [List.drop_eq_getElem_cons hk, List.take_succ_eq_append_getElem hk, List.map_append, List.append_assoc]
  simp [hc]

set_option maxRecDepth 100000 in
set_option maxHeartbeats 4000000 in
theorem byteRep_any (b : Nat) (s : Bts) (hl : s.length < 1073741824) (w : World) (hb : Blk w b tabR 401) :
    Calls Tryz.prog 362 #[.pointer (some ⟨b, 0, none⟩), .string ⟨s.toArray⟩] w fun e w' => e = .returned (.string ⟨(s.map rep).toArray⟩) ∧ Below w.heap.size w w' := by
  have HB := Lib.hid hb
  obtain ⟨R, hR⟩ : ∃ R, s.map rep = R := ⟨_, rfl⟩
  rw [hR]
  have HR := Lib.hid hR
  have qn : ∀ (w : World) (n c n' c' : Nat), (binOp .eql 22 (.slice none n c) (.slice none n' c')).run Tryz.prog w = .ok (.bool true) w := fun w n c n' c' => Lib.run_eql_slice_nil w _ _ none n c n' c' Tryz.underlying22
  have qs : ∀ (w : World) (a : Addr) (n c n' c' : Nat), (binOp .eql 22 (.slice (some a) n c) (.slice none n' c')).run Tryz.prog w = .ok (.bool false) w := fun w a n c n' c' => Lib.run_eql_slice_nil w _ _ (some a) n c n' c' Tryz.underlying22
  clear hb hR
  go_enter Tryz.func362, Tryz.ntmps362
  go_wp2_with fail
  go_loopw [5, 6, 7] (fun x5 x6 _x7 wr => ∃ k : Nat, k ≤ s.length ∧ x6 = .int .i64 k ∧ ((x5 = .slice none 0 0 ∧ wr = w ∧ Hid ((s.take k).map rep = s.take k)) ∨ (∃ c, x5 = .slice (some ⟨w.heap.size, 0, none⟩) s.length c ∧ s.length ≤ c ∧ Hid (RowB wr w.heap.size ((s.take k).map rep ++ s.drop k)) ∧ Hid (Below w.heap.size w wr)))) (fun _ x6 _ _ => s.length - (intOf x6).toNat)
  case atStart => exact ⟨0, Nat.zero_le _, rfl, .inl ⟨rfl, rfl, Lib.hid rfl⟩⟩
  case round =>
    obtain ⟨k, hk, rfl, hst⟩ := hrel
    by_cases hlt : k < s.length
    · obtain ⟨x, hx, i0⟩ : ∃ x, s[k] = x ∧ ∀ h, (⟨s.toArray⟩ : ByteArray)[k]'h = x := ⟨s[k], rfl, fun _ => rfl⟩
      have g1 : decide ((k : Int) < s.length) = true := by simp; omega
      have g2 : (0 : Int) ≤ k := by omega
      have g3 : (k : Int) < s.length := by omega
      have HX := Lib.hid hx
      clear hx
      have hxb := u8_bd x
      have hxn : x.toNat < 256 := x.toNat_lt
      by_cases hsp : x = 32 ∨ x = 9
      · have hrx : rep x = 44 := by unfold rep; rw [if_pos hsp]
        have HRX := Lib.hid hrx
        have hx1 : ∃ v : Nat, x.toNat = v ∧ v < 256 ∧ (v : Int) ≠ 44 ∧ (tabR[v]? = some (.int .u8 44)) := by
          refine ⟨x.toNat, rfl, hxn, ?_, ?_⟩
          · rcases hsp with rfl | rfl <;> decide
          · rw [tabR_at _ hxn, UInt8.ofNat_toNat, hrx]; rfl
        obtain ⟨v, hv, hv1, hv2, hv3⟩ := hx1
        have q1 : ((44 : Int) != (v : Int)) = true := by simp; omega
        have q2 : (0 : Int) ≤ v := by omega
        have q3 : (v : Int) < 256 := by omega
        have HV3 := Lib.hid hv3
        clear hsp hrx hv3
        rcases hst with ⟨rfl, rfl, HM⟩ | ⟨c, rfl, hc, HRW, HBL⟩
        · have c1 := HB.out.cell v HV3.out
          obtain ⟨c, w1, hcv, hcl, hb1, hrw⟩ := conv_row s wr
          have hrw2 : RowB w1 wr.heap.size ((s.take k).map rep ++ s.drop k) := by rw [HM.out, List.take_append_drop]; exact hrw
          have c2 := (HB.out.keep hb1 HB.out.lt).cell v HV3.out
          have hlen : k < ((s.take k).map rep ++ s.drop k).length := by simp; omega
          obtain ⟨c3, c4⟩ := hrw2 k hlen
          have hset := hrw2.set k hlen 44
          rw [map_step s k hlt 44 (by rw [HX.out]; exact HRX.out)] at hset
          have HSET := Lib.hid hset
          have HB1 := Lib.hid hb1
          clear hb1 hrw hrw2 hset
          go_wp2_with fail
          go_roundw
          case rel => exact ⟨k + 1, by omega, by go_num, .inr ⟨c, rfl, hcl, HSET, Lib.hid (((Kept.of_below (S := fun _ => False) HB1.out).setCell (.inr (Nat.le_refl _)) k _).below)⟩⟩
          case measure => simp [intOf]; omega
        · have c2 := (HB.out.keep HBL.out HB.out.lt).cell v HV3.out
          have hlen : k < ((s.take k).map rep ++ s.drop k).length := by simp; omega
          obtain ⟨c3, c4⟩ := HRW.out k hlen
          have hset := HRW.out.set k hlen 44
          rw [map_step s k hlt 44 (by rw [HX.out]; exact HRX.out)] at hset
          have HSET := Lib.hid hset
          clear hset
          go_wp2_with fail
          go_roundw
          case rel => exact ⟨k + 1, by omega, by go_num, .inr ⟨c, rfl, hc, HSET, Lib.hid (((Kept.of_below (S := fun _ => False) HBL.out).setCell (.inr (Nat.le_refl _)) k _).below)⟩⟩
          case measure => simp [intOf]; omega
      · have hrx : rep x = x := by unfold rep; rw [if_neg hsp]
        have HRX := Lib.hid hrx
        have hv3 : tabR[x.toNat]? = some (.int .u8 x.toNat) := by rw [tabR_at _ hxn, UInt8.ofNat_toNat, hrx]
        have HV3 := Lib.hid hv3
        clear hsp hrx hv3
        rcases hst with ⟨rfl, rfl, HM⟩ | ⟨c, rfl, hc, HRW, HBL⟩
        · have c1 := HB.out.cell x.toNat HV3.out
          go_wp2_with fail
          go_roundw
          case rel => exact ⟨k + 1, by omega, by go_num, .inl ⟨rfl, by first | rfl | trivial, Lib.hid (by rw [List.take_succ_eq_append_getElem hlt, List.map_append, HM.out]; simp [HX.out, HRX.out])⟩⟩
          case measure => simp [intOf]; omega
        · have c2 := (HB.out.keep HBL.out HB.out.lt).cell x.toNat HV3.out
          go_wp2_with fail
          go_roundw
          case rel => exact ⟨k + 1, by omega, by go_num, .inr ⟨c, rfl, hc, Lib.hid (by rw [← map_still s k hlt (by rw [HX.out]; exact HRX.out)]; exact HRW.out), HBL⟩⟩
          case measure => simp [intOf]; omega
    · obtain rfl : k = s.length := by omega
      have g1 : decide ((s.length : Int) < s.length) = false := by simp
      rcases hst with ⟨rfl, rfl, HM⟩ | ⟨c, rfl, hc, HRW, HBL⟩
      · have hf : s = R := by rw [← HR.out]; have := HM.out; rw [List.take_of_length_le (Nat.le_refl _)] at this; exact this.symm
        have HF := Lib.hid hf
        clear hf
        go_wp2_with fail
        go_ret
        exact ⟨by rw [← HF.out]; rfl, Below.refl _ _⟩
      · have hbs : Bs wr (some ⟨w.heap.size, 0, none⟩) R := by
          have := HRW.out.bs
          rw [List.take_of_length_le (Nat.le_refl _), List.drop_of_length_le (Nat.le_refl _), List.append_nil, HR.out] at this
          exact this
        have hRl : R.length = s.length := by rw [← HR.out]; simp
        have hcv := run_str hbs c
        rw [hRl] at hcv
        clear hbs
        go_wp2_with fail
        go_ret
        exact ⟨rfl, HBL.out⟩

end Go.Proofs.YtbpcfjoebfbjmaaGreatDoor.Rp

/-
  The walks of a replacer's first Replace: sync.Once builds it, its table turns blanks to commas. Condition: lengths.
-/
namespace Go.Proofs.YtbpcfjoebfbjmaaGreatDoor.Rp
open Go.RowKit Go.Shelf

set_option maxRecDepth 100000 in
set_option maxHeartbeats 1600000 in
theorem once_any (r : Nat) (x0 x1 x2 x3 v : Value) (B : Nat) (w : World) (hr : Blk w r #[x0, x1, x2, x3, v] 342) (ho : w.ownsRow B 9 1 v 4 (olds.map strV)) :
    Calls Tryz.prog 216 #[.pointer (some ⟨r, 0, none⟩)] w fun e w' => e = .returned (.tuple #[]) ∧ ∃ b, w.heap.size ≤ b ∧ Blk w' r #[x0, x1, x2, .iface 402 (.pointer (some ⟨b, 0, none⟩)), .slice none 0 0] 342 ∧ Blk w' b tabR 401 ∧ Kept (fun j => j = r) w w' := by
  have hbd := build_any r x0 x1 x2 x3 v B w hr ho
  have HR := Lib.hid hr
  clear hr ho
  go_enter Tryz.func216, Tryz.ntmps216
  go_wp2_with fail
  refine hbd.mono ?_
  rintro e w1 ⟨b, rfl, hbn, hb, hbl⟩
  clear hbd
  have hr1 := HR.out.keep hbl HR.out.lt
  have c3 := hr1.cell 3 (v := x3) rfl
  have f3 := hr1.free 3
  have hr2 := hr1.set 3 (.iface 402 (.pointer (some ⟨b, 0, none⟩)))
  have c4 := hr2.cell 4 (v := v) rfl
  have f4 := hr2.free 4
  have hr3 := hr2.set 4 (.slice none 0 0)
  have hne : b ≠ r := by have := HR.out.lt; omega
  have hk : Kept (fun j => j = r) w ((w1.setCell ⟨r, 3, none⟩ (.iface 402 (.pointer (some ⟨b, 0, none⟩)))).setCell ⟨r, 4, none⟩ (.slice none 0 0)) := ((Kept.of_below (S := fun j => j = r) hbl).setCell (.inl rfl) 3 _).setCell (.inl rfl) 4 _
  have hb3 : Blk ((w1.setCell ⟨r, 3, none⟩ (.iface 402 (.pointer (some ⟨b, 0, none⟩)))).setCell ⟨r, 4, none⟩ (.slice none 0 0)) b tabR 401 := (hb.setOther (a := ⟨r, 3, none⟩) hne _).setOther (a := ⟨r, 4, none⟩) hne _
  have HF := Lib.hid (And.intro hr3 (And.intro hb3 hk))
  have HBN := Lib.hid hbn
  clear hr1 hr2 hr3 hb hbl hk hb3 hbn
  go_wp2_with fail
  first | go_end0 | skip
  exact ⟨rfl, b, HBN.out, HF.out.1, HF.out.2.1, HF.out.2.2⟩

set_option maxRecDepth 100000 in
set_option maxHeartbeats 1600000 in
theorem slow_any (r : Nat) (v : Value) (B : Nat) (w : World) (hr : Blk w r #[.int .u32 0, .int .i32 0, .int .u32 0, .nilIface, v] 342) (ho : w.ownsRow B 9 1 v 4 (olds.map strV)) (hv : ∀ k, v.ownBlock = some k → ¬ k = r) :
    Calls Tryz.prog 244 #[.pointer (some ⟨r, 0, none⟩), .func (.func 216) #[.pointer (some ⟨r, 0, none⟩)] #[]] w fun e w' => e = .returned (.tuple #[]) ∧ ∃ b, w.heap.size ≤ b ∧ Blk w' r #[.int .u32 1, .int .i32 0, .int .u32 0, .iface 402 (.pointer (some ⟨b, 0, none⟩)), .slice none 0 0] 342 ∧ Blk w' b tabR 401 ∧ Kept (fun j => j = r) w w' := by
  have hent : ∀ (args : Array Value) (w : World), (callFunc 216 args).run Tryz.prog w = .ok (.enter 216 args) w := enters_of Tryz.func216 (by kernel_rfl) rfl
  have hlk := lock_free ⟨r, 1, none⟩ w (hr.cell 1 rfl) (hr.free 1)
  obtain ⟨w1, hw1⟩ : ∃ w1, w.setCell ⟨r, 1, none⟩ (.int .i32 1) = w1 := ⟨_, rfl⟩
  have hr1 : Blk w1 r #[.int .u32 0, .int .i32 1, .int .u32 0, .nilIface, v] 342 := by rw [← hw1]; exact hr.set 1 _
  have hk1 : Kept (fun j => j = r) w w1 := by rw [← hw1]; exact (Kept.refl (fun j => j = r) w).setCell (.inl rfl) 1 _
  have ho1 := own_kept ho hk1 hv
  have hl := load_any ⟨r, 0, none⟩ 0 w1 (hr1.cell 0 rfl)
  have hon := once_any r _ _ _ _ v B w1 hr1 ho1
  have hnot : ∀ (x : Bool) (w : World), (Op.unary .not (.bool x)).run Tryz.prog w = .ok (.bool (!x)) w := fun _ _ => rfl
  rw [hw1] at hlk
  have HK1 := Lib.hid hk1
  clear hr ho hw1 hr1 hk1 ho1
  go_enter_defers Tryz.func244, Tryz.ntmps244
  go_wp2_with fail
  refine hlk.mono ?_
  rintro e w' ⟨rfl, rfl⟩
  clear hlk
  go_wp2_with fail
  refine hl.mono ?_
  rintro e w' ⟨rfl, rfl⟩
  clear hl
  go_wp2_with fail
  refine hon.mono ?_
  rintro e w2 ⟨rfl, b, hbn, hr2, hb2, hk2⟩
  clear hon
  have h3 : Blk (w2.drew.setCell ⟨r, 0, none⟩ (.int .u32 1)) r #[.int .u32 1, .int .i32 1, .int .u32 0, .iface 402 (.pointer (some ⟨b, 0, none⟩)), .slice none 0 0] 342 := hr2.drew.set 0 _
  have hne : b ≠ r := by
    intro e
    have h5 : Blk w2 b _ _ := hb2
    rw [e] at h5
    have := h5.symm.trans hr2
    simp at this
  go_wp2_with fail
  refine leaves_cons (f := 280) (args := #[.pointer (some ⟨r, 0, none⟩), .bool true]) (by simp) (by simp [go_sem]) ?_
  refine (store_deferred ⟨r, 0, none⟩ (.int .u32 0) .returning _ (hr2.cell 0 rfl) (hr2.free 0)).mono ?_
  rintro e u' w3 ⟨rfl, rfl, rfl⟩
  refine leaves_cons (f := 279) (args := #[.pointer (some ⟨r, 1, none⟩)]) (by simp [settle]) (by simp [go_sem]) ?_
  refine (unlock_deferred ⟨r, 1, none⟩ _ _ (h3.cell 1 rfl) (h3.free 1)).mono ?_
  rintro e u' w4 ⟨rfl, rfl, rfl⟩
  simp [Leaves, settle, results, Tryz.results244]
  refine ⟨b, Nat.le_trans HK1.out.size hbn, h3.set 1 _, (hb2.drew.setOther (a := ⟨r, 0, none⟩) hne _).setOther (a := ⟨r, 1, none⟩) hne _, HK1.out.trans (((hk2.drew).setCell (.inl rfl) 0 _).setCell (.inl rfl) 1 _)⟩

set_option maxRecDepth 100000 in
set_option maxHeartbeats 1600000 in
theorem do_any (r : Nat) (v : Value) (B : Nat) (w : World) (hr : Blk w r #[.int .u32 0, .int .i32 0, .int .u32 0, .nilIface, v] 342) (ho : w.ownsRow B 9 1 v 4 (olds.map strV)) (hv : ∀ k, v.ownBlock = some k → ¬ k = r) :
    Calls Tryz.prog 215 #[.pointer (some ⟨r, 0, none⟩), .func (.func 216) #[.pointer (some ⟨r, 0, none⟩)] #[]] w fun e w' => e = .returned (.tuple #[]) ∧ ∃ b, w.heap.size ≤ b ∧ Blk w' r #[.int .u32 1, .int .i32 0, .int .u32 0, .iface 402 (.pointer (some ⟨b, 0, none⟩)), .slice none 0 0] 342 ∧ Blk w' b tabR 401 ∧ Kept (fun j => j = r) w w' := by
  have hl := load_any ⟨r, 0, none⟩ 0 w (hr.cell 0 rfl)
  have hs := slow_any r v B w hr ho hv
  have hnot : ∀ (x : Bool) (w : World), (Op.unary .not (.bool x)).run Tryz.prog w = .ok (.bool (!x)) w := fun _ _ => rfl
  clear hr ho hv
  go_enter Tryz.func215, Tryz.ntmps215
  go_wp2_with fail
  refine hl.mono ?_
  rintro e w' ⟨rfl, rfl⟩
  clear hl
  go_wp2_with fail
  refine hs.mono ?_
  rintro e w2 ⟨rfl, h⟩
  have H := Lib.hid h
  clear hs h
  go_wp2_with fail
  first | go_end0 | skip
  exact ⟨rfl, H.out⟩

set_option maxRecDepth 100000 in
set_option maxHeartbeats 1600000 in
/-- A new replacer's Replace. -/
theorem replace_any (r : Nat) (v : Value) (B : Nat) (s : Bts) (hl : s.length < 1073741824) (w : World) (hr : Blk w r #[.int .u32 0, .int .i32 0, .int .u32 0, .nilIface, v] 342) (ho : w.ownsRow B 9 1 v 4 (olds.map strV)) (hv : ∀ k, v.ownBlock = some k → ¬ k = r) :
    Calls Tryz.prog 181 #[.pointer (some ⟨r, 0, none⟩), .string ⟨s.toArray⟩] w fun e w' => e = .returned (.string ⟨(s.map rep).toArray⟩) ∧ Kept (fun j => j = r) w w' := by
  have hd := do_any r v B w hr ho hv
  have hmf : ∀ (fn : Fn) (first cap : Array Value) (w : World), (Instr.makeFunc fn first cap).run Tryz.prog w = .ok (.func fn first cap) w := fun _ _ _ _ => rfl
  clear hr ho hv
  go_enter Tryz.func181, Tryz.ntmps181
  go_wp2_with fail
  refine hd.mono ?_
  rintro e w1 ⟨rfl, b, -, hr1, hb1, hk1⟩
  have c3 := hr1.cell 3 (v := .iface 402 (.pointer (some ⟨b, 0, none⟩))) rfl
  have hrep := byteRep_any b s hl w1 hb1
  have HK1 := Lib.hid hk1
  clear hd hr1 hb1 hk1
  go_wp2_with fail
  refine hrep.mono ?_
  rintro e w2 ⟨rfl, hb2⟩
  have HB2 := Lib.hid hb2
  clear hrep hb2
  go_wp2_with fail
  go_ret
  exact ⟨rfl, HK1.out.trans (Kept.of_below HB2.out)⟩

end Go.Proofs.YtbpcfjoebfbjmaaGreatDoor.Rp

/-
  The walk of width's Stops: any list of stops. Conditions: lengths; what the library's variables hold.
-/
namespace Go.Proofs.YtbpcfjoebfbjmaaGreatDoor
open Go.RowKit Go.Shelf Go.Maps

theorem parts_len (f : UInt8 → Bool) : ∀ (s : List UInt8), (Wi.partsBy f s).length ≤ s.length + 1 ∧ ∀ p ∈ Wi.partsBy f s, p.length ≤ s.length := by
  intro s
  induction s with
  | nil => simp [Wi.partsBy]
  | cons c r ih =>
    obtain ⟨h1, h2⟩ := ih
    rw [Wi.partsBy]
    split
    · refine ⟨by simp; omega, fun p hp => ?_⟩
      rcases List.mem_cons.1 hp with rfl | hp
      · simp
      · have := h2 p hp; simp; omega
    · have hh := Wi.partsBy_head f r
      have h3 : ∀ p ∈ (Wi.partsBy f r).headD [] :: (Wi.partsBy f r).tail, p.length ≤ r.length := by rw [hh]; exact h2
      have h4 : ((Wi.partsBy f r).headD [] :: (Wi.partsBy f r).tail).length ≤ r.length + 1 := by rw [hh]; exact h1
      refine ⟨by simp at h4 ⊢; omega, fun p hp => ?_⟩
      rcases List.mem_cons.1 hp with rfl | hp
      · have := h3 ((Wi.partsBy f r).headD []) (by simp); simp at this ⊢; omega
      · have := h3 p (by simp [hp]); simp; omega
theorem split_parts (s : Bts) : Lib.splitB ⟨#[44]⟩ 0 (Lib.countB ⟨(s.map Rp.rep).toArray⟩ ⟨#[44]⟩) ⟨(s.map Rp.rep).toArray⟩ = (Wi.partsBy Wi.sepB s).map fun l => (⟨l.toArray⟩ : ByteArray) := by
  have h := Wi.splitB_parts 44 _ ⟨(s.map Rp.rep).toArray⟩ (Nat.le_refl _)
  have h2 := Wi.partsBy_map Rp.rep (fun _ => rfl) s
  rw [List.toList_toArray, h2] at h
  rw [← h, List.map_map]
  conv => lhs; rw [← List.map_id (Lib.splitB _ _ _ _)]
  rfl

theorem info_str9 : (Tryz.prog.info? 9).map (fun i => (i.zero, i.size, i.bytes)) = some (some (.string ByteArray.empty), 1, 16) := by kernel_rfl

theorem row_not {w : World} {r : Nat} {cs : Array Value} {t : TypeId} {v : Value} {B n : Nat} {xs : List Value} (h : Blk w r cs t) (ho : w.ownsRow B 9 1 v n xs) (ht : t ≠ 9) (hv : v.ownBlock = some r) : False := by
  rcases ho.2 with ⟨h1, -⟩ | ⟨g, cap, cur, e, -, hb, -⟩
  · rw [h1] at hv; cases hv
  · rw [e] at hv
    have hg : g = r := by simpa [Value.ownBlock] using hv
    rw [hg] at hb
    have := h.symm.trans hb
    simp at this
    exact ht this.2

set_option maxRecDepth 100000 in
set_option maxHeartbeats 1600000 in
theorem splitStops_any (s : Bts) (hl : s.length < 1073741824) (w : World) (hg : Glo w) :
    Calls Tryz.prog 147 #[.string ⟨(s.map Rp.rep).toArray⟩, .string ⟨#[44]⟩] w fun e w' => e = .returned (.slice (some ⟨w.heap.size, 0, none⟩) (Wi.partsBy Wi.sepB s).length (Wi.partsBy Wi.sepB s).length) ∧ (∀ k, k < (Wi.partsBy Wi.sepB s).length → w'.cell? ⟨w.heap.size, k, none⟩ = some (.string ⟨((Wi.partsBy Wi.sepB s).getD k []).toArray⟩)) ∧ Below w.heap.size w w' ∧ w.heap.size < w'.heap.size := by
  obtain ⟨m, hm⟩ := hg.mx
  refine (Any.strings_Split Tryz.lays146 info_str9 ⟨(s.map Rp.rep).toArray⟩ ⟨#[44]⟩ m w (by simp [ByteArray.size]; omega) hm (by decide)).mono ?_
  rintro e w' ⟨rfl, rfl⟩
  have hn : Lib.countB ⟨(s.map Rp.rep).toArray⟩ ⟨#[44]⟩ + 1 = (Wi.partsBy Wi.sepB s).length := by
    have := congrArg List.length (split_parts s)
    rw [Lib.splitB_all _ (by decide) 0 _ _ rfl, List.length_map] at this
    exact this
  rw [split_parts, hn]
  refine ⟨rfl, fun k hk => ?_, (Below.refl _ _).alloc (Nat.le_refl _) _, by simp⟩
  refine (Blk.new w _ _).cell k ?_
  rw [List.getElem?_toArray, List.getElem?_map, List.getElem?_map, List.getElem?_eq_getElem hk]
  simp [List.getD_eq_getElem?_getD, hk]

set_option maxRecDepth 100000 in
set_option maxHeartbeats 8000000 in
theorem stops_any (s : Bts) (hl : s.length < 1073741824) (w : World) (hg : Glo w) :
    Calls Tryz.prog 130 #[.string ⟨s.toArray⟩] w fun e w' => StopsPost (Wi.stopsOf 2147483647 s) w e w' := by
  obtain ⟨R, hR⟩ : ∃ R, Wi.stopsOf 2147483647 s = R := ⟨_, rfl⟩
  rw [hR]
  obtain ⟨i0, hi, hz0, hz1, hz2⟩ := info_parts info_int
  obtain ⟨wA, hwA⟩ : ∃ wA, w.alloc (.cells #[.string ⟨#[32]⟩, .string ⟨#[44]⟩, .string ⟨#[9]⟩, .string ⟨#[44]⟩] 9) = wA := ⟨_, rfl⟩
  have hbA : Below w.heap.size w wA := by rw [← hwA]; exact (Below.refl _ _).alloc (Nat.le_refl _) _
  have hkA : Blk wA w.heap.size #[.string ⟨#[32]⟩, .string ⟨#[44]⟩, .string ⟨#[9]⟩, .string ⟨#[44]⟩] 9 := by rw [← hwA]; exact Blk.new _ _ _
  have hnr := Rp.newRep_any w.heap.size 0 4 wA (fun i hi => by
    rw [Nat.zero_add]
    have : i = 0 ∨ i = 1 ∨ i = 2 ∨ i = 3 := by omega
    rcases this with rfl | rfl | rfl | rfl
    · exact hkA.cell 0 rfl
    · exact hkA.cell 1 rfl
    · exact hkA.cell 2 rfl
    · exact hkA.cell 3 rfl)
  have HBA := Lib.hid hbA
  have HG := Lib.hid hg
  have HWA := Lib.hid hwA
  have HR := Lib.hid hR
  clear hbA hkA hg hwA hR
  go_enter Tryz.func130, Tryz.ntmps130
  go_wp2_with fail
  rw [HWA.out]
  refine hnr.mono ?_
  rintro e w1 ⟨r, v, rfl, hrn, hr1, ho1, hb1⟩
  have hrl := hr1.lt
  have hrep := Rp.replace_any r v _ s hl w1 hr1 ho1 (fun k hk e => by
    rw [e] at hk
    exact row_not hr1 ho1 (by decide) hk)
  have HB1 := Lib.hid (HBA.out.trans (hb1.mono HBA.out.size))
  have HRN := Lib.hid hrn
  clear hnr hr1 ho1 hb1 hrn
  go_wp2_with fail
  refine hrep.mono ?_
  rintro e w2 ⟨rfl, hk2⟩
  have hb2 : Below w.heap.size w w2 := HB1.out.trans (below_of_kept hk2 (fun k hk => by rw [hk]; have := HRN.out; have := HBA.out.size; omega) HB1.out.size)
  have hsp := splitStops_any s hl w2 (HG.out.below hb2)
  have hpl := parts_len Wi.sepB s
  obtain ⟨PL, hPL⟩ : ∃ PL, Wi.partsBy Wi.sepB s = PL := ⟨_, rfl⟩
  rw [hPL] at hsp hpl
  have HPL := Lib.hid hPL
  have HLEN := Lib.hid hpl
  have HB2 := Lib.hid hb2
  clear hrep hk2 hb2 hPL hpl
  go_wp2_with fail
  refine hsp.mono ?_
  rintro e w3 ⟨rfl, hc3, hb3, hlt3⟩
  have HC3 := Lib.hid hc3
  have HB3 := Lib.hid (HB2.out.trans (hb3.mono HB2.out.size))
  have HLT := Lib.hid hlt3
  clear hsp hc3 hb3 hlt3 hrl
  go_wp2_with fail
  go_loopw [4, 6, 7, 8, 15] (fun x4 _x6 _x7 _x8 x15 wr => ∃ (k : Nat) (out : List Int), k ≤ PL.length ∧ out.length ≤ k ∧ x15 = .int .i64 k ∧ Hid (wr.ownsRow w3.heap.size 3 1 x4 out.length (out.map intV)) ∧ Hid (Below w3.heap.size w3 wr) ∧ Hid (Wi.stopsGo 2147483647 out (PL.drop k) = R)) (fun _ _ _ _ x15 _ => PL.length - (intOf x15).toNat)
  case atStart => exact ⟨0, [], Nat.zero_le _, Nat.le_refl _, rfl, Lib.hid (World.ownsRow_nil _ _ _ _), Lib.hid (Below.refl _ _), Lib.hid (by rw [List.drop_zero, ← HPL.out]; exact HR.out)⟩
  case round =>
    obtain ⟨k, out, hk, hok, rfl, HO, HBR, HGO⟩ := hrel
    obtain ⟨p, c, rfl⟩ := ints_shape HO.out
    have hbw := HB3.out.trans (HBR.out.mono HB3.out.size)
    have HB := Lib.hid hbw
    clear hbw
    have hkb : k ≤ 1073741824 := by have := HLEN.out.1; omega
    by_cases hlt : k < PL.length
    · have e1 : decide ((k : Int) < PL.length) = true := by simp; omega
      have e2 : decide (k < PL.length) = true := by simp; omega
      have f1 : (0 : Int) ≤ k := by omega
      have f2 : (k : Int) < PL.length := by omega
      obtain ⟨P, hP⟩ : ∃ P, PL.getD k [] = P := ⟨_, rfl⟩
      have hc := (HBR.out.cell (p := ⟨w2.heap.size, k, none⟩) HLT.out).trans (HC3.out k hlt)
      rw [hP] at hc
      have hP2 : PL[k] = P := by rw [← hP, List.getD_eq_getElem?_getD, List.getElem?_eq_getElem hlt]; rfl
      have hgo := HGO.out
      rw [List.drop_eq_getElem_cons hlt, hP2] at hgo
      have hPl : P.length ≤ s.length := HLEN.out.2 P (by rw [← hP2]; exact List.getElem_mem hlt)
      obtain ⟨Q, hQ⟩ : ∃ Q, PL.drop (k + 1) = Q := ⟨_, rfl⟩
      rw [hQ] at hgo
      have HGO2 := Lib.hid hgo
      have HQ := Lib.hid hQ
      have hnum := number_any P 2147483647 (by omega) (by decide) (by decide) wr (HG.out.below HB.out)
      clear hgo hQ hP hP2 hPl
      cases hN : Ord.number P 2147483647 with
      | none =>
        have hv : numVal P 2147483647 = .tuple #[.int .i64 0, .bool false] := by unfold numVal; rw [hN]
        rw [hv] at hnum
        have hR4 : R = none := by rw [← HGO2.out]; exact Wi.stopsGo_bad _ _ _ _ hN
        have HR4 := Lib.hid hR4
        clear hv hN hR4
        go_wp2_with fail
        refine hnum.mono ?_
        rintro e w4 ⟨rfl, hb4⟩
        have HB4 := Lib.hid (HB.out.trans (hb4.mono HB.out.size))
        clear hnum hb4
        go_wp2_with fail
        go_ret2
        exact ⟨HB4.out, .inl ⟨HR4.out, rfl⟩⟩
      | some n =>
        have hv : numVal P 2147483647 = .tuple #[.int .i64 n, .bool true] := by unfold numVal; rw [hN]
        rw [hv] at hnum
        have HNN := Lib.hid hN
        clear hv hN
        go_wp2_with fail
        refine hnum.mono ?_
        rintro e w4 ⟨rfl, hb4⟩
        have HB4 := Lib.hid (HB.out.trans (hb4.mono HB.out.size))
        have HBR4 := Lib.hid (HBR.out.trans (hb4.mono HBR.out.size))
        have HO4 := Lib.hid (row_keep HO.out hb4)
        clear hnum hb4 hc
        by_cases hn1 : n < 1
        · have g1 : decide (n < 1) = true := by simpa using hn1
          have hR4 : R = none := by rw [← HGO2.out]; exact Wi.stopsGo_low _ _ _ _ n HNN.out (.inl hn1)
          have HR4 := Lib.hid hR4
          clear hn1 hR4
          go_wp2_with fail
          go_ret2
          exact ⟨HB4.out, .inl ⟨HR4.out, rfl⟩⟩
        · have g1 : decide (n < 1) = false := by simpa using hn1
          have HN1 := Lib.hid hn1
          clear hn1
          by_cases h0 : out = []
          · subst h0
            have hgood : Wi.stopsGo 2147483647 ([] ++ [n]) Q = R := by rw [← HGO2.out, Wi.stopsGo_good _ _ _ _ n HNN.out (by have := HN1.out; omega) (.inl rfl)]
            have HGOOD := Lib.hid hgood
            clear hgood
            simp only [List.length_nil, List.map_nil] at *
            go_wp2_with (at_builtin; refine wpList_append_own _ rfl _ _ 30 rfl w3.heap.size 3 i0 (.int .i64 0) 1 8 Tryz.underlying30 hi hz0 hz1 hz2 rfl (by decide) _ _ _ rfl (HO4.out.alloc _) ⟨w4.heap.size, 0, none⟩ 1 1 [.int .i64 n] rfl rfl (cell_one_new _ _ _) (by simp [Value.oneCell']) (by unfold maxLen; first | omega | (simp <;> omega)) (by first | omega | (simp <;> omega)) (by have := HBR4.out.size; simp <;> omega) ?_; intro v' w5 hown' hgrow _)
            have hb5 : Below w3.heap.size w3 w5 := (HBR4.out.alloc HBR4.out.size _).grown hgrow (by have := HBR4.out.size; simp <;> omega) fun j hj => (HO4.out.lt j hj).1
            go_roundw
            case rel => exact ⟨k + 1, [n], by omega, by simp, by go_num, Lib.hid (by simpa [intV] using hown'), Lib.hid hb5, Lib.hid (by rw [HQ.out]; exact HGOOD.out)⟩
            case measure => simp [intOf]; omega
          · obtain ⟨g, c', he, hcl, hcc⟩ := ints_last HO4.out h0
            injection he with he1 _ he3
            subst he1 he3
            have h1l : 0 < out.length := List.length_pos_iff.2 h0
            have q1 : decide ((0 : Int) < out.length) = true := by simp; omega
            have q2 : decide (0 < out.length) = true := by simp; omega
            have q3 : IntKind.i64.wrap ((out.length : Int) - 1) = ((out.length - 1 : Nat) : Int) := by rw [IntKind.wrap_i64]; have := HLEN.out.1; omega
            have q4 : wrap64 ((out.length : Int) - 1) = ((out.length - 1 : Nat) : Int) := by rw [wrap64]; have := HLEN.out.1; omega
            have q5 : ((out.length - 1 : Nat) : Int) < (out.length : Int) := by omega
            have q6 : out.length - 1 < out.length := by omega
            by_cases hlow : n ≤ out.getLastD 0
            · have hR4 : R = none := by rw [← HGO2.out]; exact Wi.stopsGo_low _ _ _ _ n HNN.out (.inr ⟨h0, hlow⟩)
              have HR4 := Lib.hid hR4
              have q7 : decide (n ≤ out.getLastD 0) = true := by simpa using hlow
              obtain ⟨la, hla⟩ : ∃ la, out.getLastD 0 = la := ⟨_, rfl⟩
              rw [hla] at hcl q7
              clear hlow hR4 h0 hla
              go_wp2_with fail
              go_ret2
              exact ⟨HB4.out, .inl ⟨HR4.out, rfl⟩⟩
            · have hgood : Wi.stopsGo 2147483647 (out ++ [n]) Q = R := by rw [← HGO2.out, Wi.stopsGo_good _ _ _ _ n HNN.out (by have := HN1.out; omega) (.inr (by omega))]
              have HGOOD := Lib.hid hgood
              have q7 : decide (n ≤ out.getLastD 0) = false := by simpa using hlow
              obtain ⟨la, hla⟩ : ∃ la, out.getLastD 0 = la := ⟨_, rfl⟩
              rw [hla] at hcl q7
              have hlim := HLEN.out.1
              clear hlow hgood h0 hla
              go_wp2_with (at_builtin; refine wpList_append_own _ rfl _ _ 30 rfl w3.heap.size 3 i0 (.int .i64 0) 1 8 Tryz.underlying30 hi hz0 hz1 hz2 rfl (by decide) _ _ _ rfl (HO4.out.alloc _) ⟨w4.heap.size, 0, none⟩ 1 1 [.int .i64 n] rfl rfl (cell_one_new _ _ _) (by simp [Value.oneCell']) (by unfold maxLen; first | omega | (simp <;> omega)) (by first | omega | (simp <;> omega)) (by have := HBR4.out.size; simp <;> omega) ?_; intro v' w5 hown' hgrow _)
              have hb5 : Below w3.heap.size w3 w5 := (HBR4.out.alloc HBR4.out.size _).grown hgrow (by have := HBR4.out.size; simp <;> omega) fun j hj => (HO4.out.lt j hj).1
              go_roundw
              case rel => exact ⟨k + 1, out ++ [n], by omega, by simp; omega, by go_num, Lib.hid (by simpa [intV] using hown'), Lib.hid hb5, Lib.hid (by rw [HQ.out]; exact HGOOD.out)⟩
              case measure => simp [intOf]; omega
    · obtain rfl : k = PL.length := by omega
      have e1 : decide ((PL.length : Int) < PL.length) = false := by simp
      have hR4 : some out = R := by
        have := HGO.out
        rw [List.drop_of_length_le (Nat.le_refl _)] at this
        exact this
      have HR4 := Lib.hid hR4
      clear hR4
      go_wp2_with fail
      go_ret2
      exact ⟨HB.out, .inr ⟨out, _, HR4.out.symm, rfl, own_mono HO.out HB3.out.size⟩⟩

end Go.Proofs.YtbpcfjoebfbjmaaGreatDoor

/-
  The walks of width's Stops at one number, and of asked. Conditions: a number alone; lengths; what the library's variables hold.
-/
namespace Go.Proofs.YtbpcfjoebfbjmaaGreatDoor
open Go.RowKit Go.Shelf Go.Maps

theorem append_int1 {ops : Array Oper} {rest : List Oper} {o : Oper} {a : Act} {w : World} {Q : Exit → Act → World → Prop} (hgd : o.guard = none) (s x : Operand)
    (ho : o.op = .call { callee := .builtin .append, args := #[s, x], argTypes := #[30, 30] }) (hs : a.eval s = .slice none 0 0) (b c : Nat) (n : Int) (hx : a.eval x = .slice (some ⟨b, 0, none⟩) 1 c) (hc : w.cell? ⟨b, 0, none⟩ = some (.int .i64 n))
    (h : ∀ c' w', 1 ≤ c' → w'.cell? ⟨w.heap.size, 0, none⟩ = some (.int .i64 n) → (∀ i m, w'.cell? ⟨w.heap.size, i, none⟩ ≠ some (.int .u8 m)) → Below w.heap.size w w' → wpList Tryz.prog ops Q rest (a.put o.dst (.slice (some ⟨w.heap.size, 0, none⟩) 1 c')) w') : wpList Tryz.prog ops Q (o :: rest) a w := by
  obtain ⟨i0, hi, hz0, hz1, hz2⟩ := info_parts info_int
  have hr := run_append_nil (P := Tryz.prog) w 30 o.type 3 i0 (.int .i64 0) Tryz.underlying30 hi hz0 ⟨b, 0, none⟩ 1 c [.int .i64 n] (by rw [hz1]; rfl) (fun j v hj => by
    cases j with
    | zero => simp at hj; subst hj; simpa [Addr.add] using hc
    | succ j => simp at hj) (by decide) (by decide) (by rw [hz2]; decide)
  have hcz : (Value.int .i64 0).cells = #[.int .i64 0] := rfl
  have hall : ∀ k, ∀ v ∈ ([Value.int .i64 n].toArray ++ Builtin.zeroCells (Value.int .i64 0).cells k), v = .int .i64 n ∨ v = .int .i64 0 := by
    intro k v hv
    rw [hcz] at hv
    rcases Array.mem_append.1 hv with hv | hv
    · left; simpa using hv
    · right
      simp only [Builtin.zeroCells, Array.mem_map] at hv
      obtain ⟨i, -, rfl⟩ := hv
      have e : i % (#[Value.int .i64 0] : Array Value).size = 0 := Nat.mod_one i
      rw [e]
      rfl
  obtain ⟨K, hK⟩ : ∃ K, ([Value.int .i64 n].toArray ++ Builtin.zeroCells (Value.int .i64 0).cells (grownCap w 1 0 3 - 1)) = K := ⟨_, rfl⟩
  have hall2 := hall (grownCap w 1 0 3 - 1)
  have hk0 : K[0]? = some (.int .i64 n) := by rw [← hK, Array.getElem?_append_left (Nat.one_pos)]; rfl
  rw [hK] at hr hall2
  have hblk : Blk (w.drew.alloc (.cells K 3)) w.heap.size K 3 := Blk.new w.drew _ _
  have hb : Below w.heap.size w (w.drew.alloc (.cells K 3)) := (below_drew2 w).alloc (Nat.le_refl _) _
  have hno : ∀ i m, (w.drew.alloc (.cells K 3)).cell? ⟨w.heap.size, i, none⟩ ≠ some (.int .u8 m) := fun i m e => by
    rw [Lib.cell_of_heap hblk] at e
    rcases hall2 _ (Array.mem_of_getElem? e) with h | h <;> cases h
  refine wpList_plain hgd fun K2 hK2 => ?_
  unfold Oper.wp execOp
  simp only [ho, resolve, invoke, builtin, Sem.run_bind, Sem.run_pure, Result.andThen_ok, List.map_toArray, List.map_cons, List.map_nil, hs, hx, hr]
  exact hK2 _ _ (h _ _ (grownCap_ge _ _ _ _) (hblk.cell 0 hk0) hno hb)

set_option maxRecDepth 100000 in
set_option maxHeartbeats 8000000 in
theorem stopsOne_any (s : Bts) (n : Nat) (hl : s.length < 1073741824) (hp : Wi.partsBy Wi.sepB s = [s]) (hn : Ord.number s 2147483647 = some (n : Int)) (h1 : 1 ≤ n) (w : World) (hg : Glo w) :
    Calls Tryz.prog 130 #[.string ⟨s.toArray⟩] w fun e w' => AskPost n w e w' := by
  obtain ⟨wA, hwA⟩ : ∃ wA, w.alloc (.cells #[.string ⟨#[32]⟩, .string ⟨#[44]⟩, .string ⟨#[9]⟩, .string ⟨#[44]⟩] 9) = wA := ⟨_, rfl⟩
  have hbA : Below w.heap.size w wA := by rw [← hwA]; exact (Below.refl _ _).alloc (Nat.le_refl _) _
  have hkA : Blk wA w.heap.size #[.string ⟨#[32]⟩, .string ⟨#[44]⟩, .string ⟨#[9]⟩, .string ⟨#[44]⟩] 9 := by rw [← hwA]; exact Blk.new _ _ _
  have hnr := Rp.newRep_any w.heap.size 0 4 wA (fun i hi => by
    rw [Nat.zero_add]
    have : i = 0 ∨ i = 1 ∨ i = 2 ∨ i = 3 := by omega
    rcases this with rfl | rfl | rfl | rfl
    · exact hkA.cell 0 rfl
    · exact hkA.cell 1 rfl
    · exact hkA.cell 2 rfl
    · exact hkA.cell 3 rfl)
  have hv : numVal s 2147483647 = .tuple #[.int .i64 n, .bool true] := by unfold numVal; rw [hn]
  have HBA := Lib.hid hbA
  have HG := Lib.hid hg
  have HWA := Lib.hid hwA
  have HP := Lib.hid hp
  have HV := Lib.hid hv
  clear hbA hkA hg hwA hp hv hn
  go_enter Tryz.func130, Tryz.ntmps130
  go_wp2_with fail
  rw [HWA.out]
  refine hnr.mono ?_
  rintro e w1 ⟨r, v, rfl, hrn, hr1, ho1, hb1⟩
  have hrep := Rp.replace_any r v _ s hl w1 hr1 ho1 (fun k hk e => by
    rw [e] at hk
    exact row_not hr1 ho1 (by decide) hk)
  have HB1 := Lib.hid (HBA.out.trans (hb1.mono HBA.out.size))
  have HRN := Lib.hid hrn
  clear hnr hr1 ho1 hb1 hrn
  go_wp2_with fail
  refine hrep.mono ?_
  rintro e w2 ⟨rfl, hk2⟩
  have hb2 : Below w.heap.size w w2 := HB1.out.trans (below_of_kept hk2 (fun k hk => by rw [hk]; have := HRN.out; have := HBA.out.size; omega) HB1.out.size)
  have hsp := splitStops_any s hl w2 (HG.out.below hb2)
  rw [HP.out] at hsp
  have HB2 := Lib.hid hb2
  clear hrep hk2 hb2
  go_wp2_with fail
  refine hsp.mono ?_
  rintro e w3 ⟨rfl, hc3, hb3, hlt3⟩
  have hc := hc3 0 (by simp)
  simp only [List.getD_cons_zero] at hc
  have HB3 := Lib.hid (HB2.out.trans (hb3.mono HB2.out.size))
  have hnum := number_any s 2147483647 (by omega) (by decide) (by decide) w3 (HG.out.below HB3.out)
  rw [HV.out] at hnum
  have HNUM := Lib.hid hnum
  have HC := Lib.hid hc
  simp only [List.length_singleton]
  clear hsp hc3 hb3 hlt3 hnum hc
  go_wp2_with fail
  go_loopw [4, 6, 7, 8, 15] (fun x4 _x6 _x7 _x8 x15 wr => (x15 = .int .i64 0 ∧ x4 = .slice none 0 0 ∧ wr = w3) ∨ (x15 = .int .i64 1 ∧ ∃ b cc, x4 = .slice (some ⟨b, 0, none⟩) 1 cc ∧ Hid (1 ≤ cc ∧ w.heap.size ≤ b ∧ wr.cell? ⟨b, 0, none⟩ = some (.int .i64 n) ∧ (∀ i m, wr.cell? ⟨b, i, none⟩ ≠ some (.int .u8 m)) ∧ Below w.heap.size w wr))) (fun _ _ _ _ x15 _ => 1 - (intOf x15).toNat)
  case atStart => exact .inl ⟨rfl, rfl, rfl⟩
  case round =>
    rcases hrel with ⟨rfl, rfl, rfl⟩ | ⟨rfl, b, cc, rfl, H⟩
    · have hc := HC.out
      have hnum := HNUM.out
      have g1 : decide ((n : Int) < 1) = false := by simp; omega
      have g2 : decide (n < 1) = false := by simp; omega
      go_wp2_with fail
      refine hnum.mono ?_
      rintro e w4 ⟨rfl, hb4⟩
      have HB4 := Lib.hid (HB3.out.trans (hb4.mono HB3.out.size))
      clear hnum hb4 hc
      go_wp2_with (at_builtin; refine append_int1 rfl _ _ rfl (by go_simp) w4.heap.size 1 n (by go_simp) ((Blk.new w4 #[.int .i64 (n : Int)] 3).cell 0 rfl) ?_; intro c' w5 hc1 hc2 hc3 hb5)
      have HF : Hid (1 ≤ c' ∧ w.heap.size ≤ w4.heap.size + 1 ∧ w5.cell? ⟨w4.heap.size + 1, 0, none⟩ = some (.int .i64 n) ∧ (∀ i m, w5.cell? ⟨w4.heap.size + 1, i, none⟩ ≠ some (.int .u8 m)) ∧ Below w.heap.size w w5) := Lib.hid ⟨hc1, by have := HB4.out.size; omega, by simpa using hc2, by simpa using hc3, (HB4.out.alloc HB4.out.size _).trans (hb5.mono (by have := HB4.out.size; simp; omega))⟩
      clear hc1 hc2 hc3 hb5
      go_roundw
      case rel => exact .inr ⟨by go_num, _, c', rfl, HF⟩
      case measure => simp [intOf]
    · go_wp2_with fail
      go_ret2
      obtain ⟨h1, h2, h3, h4, h5⟩ := H.out
      exact ⟨b, cc, rfl, h1, h2, h3, h4, h5⟩

set_option maxRecDepth 100000 in
set_option maxHeartbeats 4000000 in
theorem asked_any (L : List OptA) (s : Bts) (n : Nat) (hLN : L.length ≤ 1000000) (hla : Op.last L 116 = some s) (hl : s.length < 1073741824) (hp : Wi.partsBy Wi.sepB s = [s]) (hn : Ord.number s 2147483647 = some (n : Int)) (h1 : 1 ≤ n) : AskedC L n := by
  intro p cap w hcap hat hg
  have hlast := last_any L 116 p cap hcap hLN w hat
  rw [hla] at hlast
  simp only [lastV, strV] at hlast
  have HG := Lib.hid hg
  clear hat hg
  go_enter Tryz.func81, Tryz.ntmps81
  go_wp2_with fail
  refine hlast.mono ?_
  rintro e w1 ⟨rfl, hb1⟩
  have hst := stopsOne_any s n hl hp hn h1 w1 (HG.out.below hb1)
  have HB1 := Lib.hid hb1
  clear hlast hb1
  go_wp2_with fail
  refine hst.mono ?_
  rintro e w2 ⟨b, cc, rfl, hcc, hbn, hc, hno, hb2⟩
  have HF : Hid (1 ≤ cc ∧ w.heap.size ≤ b ∧ w2.cell? ⟨b, 0, none⟩ = some (.int .i64 n) ∧ (∀ i m, w2.cell? ⟨b, i, none⟩ ≠ some (.int .u8 m)) ∧ Below w.heap.size w w2) := Lib.hid ⟨hcc, by have := HB1.out.size; omega, hc, hno, HB1.out.trans (hb2.mono HB1.out.size)⟩
  clear hst hcc hbn hc hno hb2
  go_wp2_with fail
  go_ret2
  obtain ⟨h1, h2, h3, h4, h5⟩ := HF.out
  exact ⟨b, cc, rfl, h1, h2, h3, h4, h5⟩

end Go.Proofs.YtbpcfjoebfbjmaaGreatDoor
