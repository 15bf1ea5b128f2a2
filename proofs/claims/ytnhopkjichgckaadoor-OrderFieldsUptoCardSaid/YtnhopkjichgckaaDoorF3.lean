/-
  OrderFields, its second form: the row's statement and its card.
-/
import Derived.Test.YtnhopkjichgckaaDoorOpen
import Derived.Test.YtnhopkjichgckaaDoorW20
namespace Go.Proofs.YtnhopkjichgckaaDoor.fields
open Go.ChangeShapes Go.WideShapes Go.ChangeAt Go.RowKit

theorem lenAll_bulk {H : Type} (f : Nat → Ord.Bytes) : ∀ l : List Nat, Ord.lenAll (l.map f) = Rows.uptoBulkAll (l.map fun i => (DataW.lit (.string (f i)) : DataW H))
  | [] => by simp [Ord.lenAll, Rows.uptoBulkAll]
  | x :: r => by
    have := lenAll_bulk (H := H) f r
    simp only [List.map_cons, Ord.lenAll, Rows.uptoBulkAll, Rows.uptoBulk, this]

/-- A slice of strings. -/
theorem open_list {H : Type} {enc : TypeId × Value → H} {W : World} {a0 : Option Addr} {len cap : Nat} {d0 : DataW H} {p : List MemPlace} (h0 : DataW.Trod enc Tryd.prog W 0 (fun _ => true) true 34 (.slice a0 len cap) d0 p) :
    ∃ L : List Ord.Bytes, L.length = len ∧ StrsIn W a0 L ∧ len ≤ Rows.uptoBulk d0 ∧ Ord.lenAll L ≤ Rows.uptoBulk d0 := by
  obtain ⟨fuel, hf⟩ := h0
  rcases Deep.open_strs Tryd.underlying34 Tryd.underlying9 cellsStr hf with ⟨hcs, hx⟩ | ⟨a, len', cap', m, Sx, hcs, _, hl, hm, hmm, hx, hall⟩
  · simp [Value.cells] at hcs
    obtain ⟨rfl, rfl, rfl⟩ := hcs
    exact ⟨[], rfl, StrsIn.nil _ _, Nat.zero_le _, Nat.zero_le _⟩
  · simp [Value.cells] at hcs
    obtain ⟨rfl, rfl, rfl⟩ := hcs
    simp only [Prod.mk.injEq] at hx
    obtain ⟨rfl, rfl⟩ := hx
    simp only [if_true] at hmm
    subst hmm
    refine ⟨(List.range len).map fun i => (Sx i).data.toList, by simp, fun hpos => ?_, ?_, ?_⟩
    · simp at hpos
      have ha : a = ⟨a.block, a.off, none⟩ := plain_addr (a := a) (by simpa [Addr.add] using (hall 0 (by omega)).1)
      refine ⟨a.block, a.off, by rw [← ha], fun i hi => ?_⟩
      simp at hi
      have hc := (hall i (by omega)).1
      rw [ha, add_plain'] at hc
      rw [hc]
      simp [List.getD_eq_getElem?_getD, List.getElem?_range hi]
    · have := bulks.slice_le ((List.range len).map fun i => (DataW.lit (.string (Sx i).data.toList) : DataW H)) ((List.range (m - len)).map fun j => .lit (.string (Sx (len + j)).data.toList))
      simp only [List.length_map, List.length_range] at this
      omega
    · rw [lenAll_bulk (H := H)]
      have := bulks.slice_elems ((List.range len).map fun i => (DataW.lit (.string (Sx i).data.toList) : DataW H)) ((List.range (m - len)).map fun j => .lit (.string (Sx (len + j)).data.toList))
      omega

set_option maxRecDepth 100000 in
theorem contract (H : Type) (enc : TypeId × Value → H) (W : World) (base : Nat) (args : Array Value) (ds gs : List (DataW H)) (before : List MemPlace)
    (hval : ∀ (j : Nat) t v, Tryd.f5.params[j]? = some t → args[j]? = some v → Value.okWide Tryd.prog W .any base t v)
    (hW : DataW.Whole enc Tryd.prog Tryd.f5.params.toList Rows.orderFieldsSpec.vars false W args.toList ds gs before) (hcond : Rows.uptoSmall H (ds ++ gs) = true) (hL : laidMetH Tryd.prog Rows.orderFieldsUptoRow.laid W) :
    Calls Tryd.prog 5 args W fun e W' => ∃ v, e = .returned v ∧ Rows.orderFieldsSpec.post enc Tryd.prog Tryd.f5 false true false false W args v W' := by
  have hW' := hW
  obtain ⟨p, q, hA0, hV, rfl, hfz, hnd⟩ := hW
  have hA : DataW.TrodAll enc Tryd.prog W 0 (fun _ => true) true Tryd.f5.params.toList args.toList ds p := hA0
  rw [Tryd.params5] at hA hval
  obtain ⟨v0, v1, v2, v3, d0, d1, d2, d3, p0, p1, p2, p3, rfl, rfl, rfl, h0, h1, h2, h3⟩ := trodAll_four hA
  obtain ⟨rfl, rfl⟩ := trodVars_none hV
  obtain ⟨a0, n0, c0, rfl⟩ := okWide_slice Tryd.underlying34 (hval 0 34 v0 rfl rfl)
  obtain ⟨a1, n1, c1, rfl⟩ := okWide_slice Tryd.underlying34 (hval 1 34 v1 rfl rfl)
  obtain ⟨x2, rfl, rfl, rfl, wx2⟩ := open_int Tryd.underlying3 (hval 2 3 v2 rfl rfl) h2
  obtain ⟨x3, rfl, rfl, rfl, wx3⟩ := open_int Tryd.underlying5 (hval 3 5 v3 rfl rfl) h3
  clear hA0
  simp only [List.append_nil] at hW'
  have hlt : ∀ x ∈ p0 ++ p1, x.block < W.heap.size := fun x hx => by simpa using hW'.lt x hx
  have hbulk := bulks.bound hcond
  simp only [List.append_nil, Rows.uptoBulkAll] at hbulk
  obtain ⟨la, rfl, hoa, hla1, hla2⟩ := open_list h0
  obtain ⟨lb, rfl, hob, hlb1, hlb2⟩ := open_list h1
  obtain ⟨hg, hB⟩ := glo_of rfl hL
  have hby := byte_nat wx3
  have walk := OrderFields_any la lb a0 a1 c0 c1 x2 (UInt8.ofNat x3.toNat) W hoa hob (by omega) (by omega) (by omega) (by omega) hg hB
  rw [hby] at walk
  refine walk.mono fun e W' ⟨he, hb⟩ => ?_
  subst he
  have t0 := Below.trod (t := 34) isLaidOut (by kernel_rfl) (of_decide_eq_true (by kernel_rfl)) h0 hb (fun x hx => hlt x (by simp [hx]))
  have t1 := Below.trod (t := 34) isLaidOut (by kernel_rfl) (of_decide_eq_true (by kernel_rfl)) h1 hb (fun x hx => hlt x (by simp [hx]))
  exact ⟨_, rfl, _, _, _, [], _, [], hW', trodAll_cons_mk (shut_bool Tryd.underlying4 _) trodAll_mk0, trodAll_mk4 t0 t1 (shut_int Tryd.underlying3 wx2) (shut_int Tryd.underlying5 wx3), rfl, hb.frame _, fun h => by cases h⟩

def witnessArgs : Array Value := #[.slice none 0 0, .slice none 0 0, .int .i64 0, .int .u8 0]
theorem laid_met (os : Os) : laidMetH Tryd.prog Rows.orderFieldsUptoRow.laid ((World.laidAll Tryd.prog os Rows.orderFieldsUptoRow.laid).forCall (fun _ _ => 0) ⟨#[], witnessArgs, []⟩).memory := by
  rw [MakeChecks.laidMetH_plain _ _ _ (by kernel_rfl)]
  exact laidMet_laidAll _ (by kernel_rfl) (by kernel_rfl)
theorem reads (os : Os) {H : Type} (enc : TypeId × Value → H) : ∃ places, DataW.whole enc Tryd.prog ((World.laidAll Tryd.prog os Rows.orderFieldsUptoRow.laid).forCall (fun _ _ => 0) ⟨#[], witnessArgs, []⟩).memory Tryd.f5.params.toList Rows.orderFieldsSpec.vars false witnessArgs.toList 8 = some ([.nil, .nil, .lit (.int .i64 0), .lit (.int .u8 0)], [], places) :=
  ⟨[], by kernel_rfl⟩

set_option maxRecDepth 100000 in
theorem liftedUpto (os : Os) (started : os.Started) (H : Type) (enc : TypeId × Value → H) (F : Stop.Interp) :
    ReturnsInHanded {} Tryd.checked os 5 .any ((Rows.OpenSpec.upto Rows.orderFieldsSpec).preRow enc Tryd.prog Tryd.f5 Rows.orderFieldsUptoRow.domain false Rows.orderFieldsUptoRow.laid) (((Rows.OpenSpec.upto Rows.orderFieldsSpec).at F).post enc Tryd.prog Tryd.f5 false true false false) := by
  obtain ⟨places, hx⟩ := reads os enc
  refine returnsInHanded_of_row (C := Tryd.checked) (s := Rows.OpenSpec.upto Rows.orderFieldsSpec) own started (by kernel_rfl) Tryd.func5
    (witness_row_atRef (enc := enc) (C := Tryd.checked) false (World.laidAll Tryd.prog os Rows.orderFieldsUptoRow.laid) witnessArgs (World.laidAll_os _ _ _) (by kernel_rfl) (by kernel_rfl) (by kernel_rfl)
      (OpenSpec.preRow_of_cond 8 hx (by kernel_rfl) (fun k hk => by cases hk; kernel_rfl) (by kernel_rfl) (laid_met os))) ?_
  intro W base args ds gs before hval hW _ hcond _ hL _ _
  exact contract H enc W base args ds gs before hval hW (hcond _ rfl) hL

theorem saidUpto : Rows.OrderFieldsUptoSaid :=
  OpenClaim.holds_of_cond 5 Tryd.f5 rfl rfl rfl rfl rfl rfl rfl ⟨rfl, rfl, rfl, rfl, rfl⟩ rfl rfl rfl rfl rfl (by kernel_rfl) Tryd.func5 (by kernel_rfl)
    (of_decide_eq_true (by kernel_rfl)) (by unfold Func.isWrapper; first | (rw [if_pos (by decide +kernel)]; kernel_rfl) | (rw [if_neg (by decide +kernel)]; exact ⟨rfl, rfl⟩))
    (fun os started H enc _ F => by rw [OpenClaim.pre_eq_preRow]; exact liftedUpto os started H enc F)

theorem plain (f : FuncId) (fn : Func) (hf : Tryd.pinned.checked.prog.funcNamed "toolchest/toolchestlaw12.OrderFields" = some f) (hfn : Tryd.pinned.checked.prog.funcs[f]? = some fn) :
    true = Tryd.pinned.checked.prog.looks [] ∧ ∀ (j : Nat) t, fn.params[j]? = some t → Tryd.pinned.checked.prog.wantsStandIn t = false := by
  obtain rfl : f = 5 := Option.some.inj ((show Tryd.prog.funcNamed "toolchest/toolchestlaw12.OrderFields" = some 5 by kernel_rfl).symm.trans hf) |>.symm
  obtain rfl : fn = Tryd.f5 := (Option.some.inj (Tryd.func5.symm.trans hfn)).symm
  refine ⟨by kernel_rfl, fun j t ht => ?_⟩
  rw [Tryd.params5] at ht
  have hm : t ∈ [34, 34, 3, 5] := by simpa using Array.mem_of_getElem? ht
  have hall : ([34, 34, 3, 5].all fun u => !Tryd.prog.wantsStandIn u) = true := by kernel_rfl
  exact (show Tryd.prog.wantsStandIn t = false by simpa using List.all_eq_true.1 hall t hm)

theorem cardUpto : Rows.OrderFieldsUptoCardSaid :=
  Claim7.holds_tied_plain_at .later [] _ _ _ _ saidUpto (fun _ h => by cases h) (by kernel_rfl) (fun _ h => by cases h) orderFieldsUpto_row_tie rfl ⟨rfl, rfl⟩ (by kernel_rfl) rfl plain (by kernel_rfl)

#print axioms cardUpto
end Go.Proofs.YtnhopkjichgckaaDoor.fields
