/-
  WordNames, its second form: the row's statement and its card.
-/
import Derived.Test.YtfoehfehnmhhmaaGreatDoorOpen
import Derived.Test.YtfoehfehnmhhmaaGreatDoorW45
namespace Go.Proofs.YtfoehfehnmhhmaaGreatDoor.names
open Go.ChangeShapes Go.WideShapes Go.ChangeAt Go.RowKit

theorem add_plain' (b o k : Nat) : (⟨b, o, none⟩ : Addr).add k = ⟨b, o + k, none⟩ := by
  simp only [Addr.add]; split <;> simp_all

/-- An address that holds a cell is a plain one. -/
theorem plain_addr {W : World} {a : Addr} {v : Value} (h : W.cell? a = some v) : a = ⟨a.block, a.off, none⟩ := by
  obtain ⟨b, o, s⟩ := a
  unfold World.cell? at h
  cases s with
  | none => rfl
  | some s =>
    split at h
    · simp at h
    · cases h

/-- A slice of strings that comes in. -/
theorem open_vars {H : Type} {enc : TypeId × Value → H} {W : World} {a0 : Option Addr} {len cap : Nat} {d0 : DataW H} {p : List MemPlace} (h0 : DataW.Trod enc Tryz.prog W 0 (fun _ => true) true 23 (.slice a0 len cap) d0 p) (hb : Rows.uptoBulk d0 ≤ 1048576) :
    ∃ L : List Wd.Bytes, L.length ≤ 1048576 ∧ VarsIn W W.heap.size (.slice a0 len cap) L := by
  obtain ⟨fuel, hf⟩ := h0
  rcases Deep.open_strs Tryz.underlying23 Tryz.underlying9 cellsStr hf with ⟨hcs, hx⟩ | ⟨a, len', cap', m, Sx, hcs, _, hl, hm, hmm, hx, hall⟩
  · simp [Value.cells] at hcs
    obtain ⟨rfl, rfl, rfl⟩ := hcs
    exact ⟨[], by simp, ⟨by simp, by simp, .inl ⟨rfl, _, _, rfl⟩⟩, fun c hc => by simp at hc; exact hc.symm⟩
  · simp [Value.cells] at hcs
    obtain ⟨rfl, rfl, rfl⟩ := hcs
    simp only [Prod.mk.injEq] at hx
    obtain ⟨rfl, rfl⟩ := hx
    simp only [if_true] at hmm
    subst hmm
    have hsz := bulks.slice_le ((List.range len).map fun i => (DataW.lit (.string (Sx i).data.toList) : DataW H)) ((List.range (m - len)).map fun j => .lit (.string (Sx (len + j)).data.toList))
    have hel := bulks.slice_elems ((List.range len).map fun i => (DataW.lit (.string (Sx i).data.toList) : DataW H)) ((List.range (m - len)).map fun j => .lit (.string (Sx (len + j)).data.toList))
    simp only [List.length_map, List.length_range] at hsz
    refine ⟨(List.range len).map fun i => (Sx i).data.toList, by simp; omega, ⟨by simp; omega, fun s hs => ?_, ?_⟩, fun c hc => by simp at hc⟩
    · obtain ⟨i, hi, rfl⟩ := List.mem_map.1 hs
      have h1 : Rows.uptoBulk (DataW.lit (.string (Sx i).data.toList) : DataW H) ≤ Rows.uptoBulkAll ((List.range len).map fun i => (DataW.lit (.string (Sx i).data.toList) : DataW H)) := bulks.part_le (List.mem_map.2 ⟨i, hi, rfl⟩)
      rw [bulks.string_eq] at h1
      omega
    · by_cases h0 : len = 0
      · subst h0; exact .inl ⟨rfl, _, _, rfl⟩
      · have ha : a = ⟨a.block, a.off, none⟩ := plain_addr (a := a) (by simpa [Addr.add] using (hall 0 (by omega)).1)
        refine .inr ⟨a.block, a.off, m, by rw [← ha]; simp, by simp; omega, ?_, fun i hi => ?_⟩
        · have hc := (hall 0 (by omega)).1
          rw [ha, add_plain'] at hc
          exact World.block_lt_of_cell? W ⟨a.block, a.off + 0, none⟩ hc
        · simp at hi
          have hc := (hall i (by omega)).1
          rw [ha, add_plain'] at hc
          rw [hc]
          simp [List.getD_eq_getElem?_getD, List.getElem?_range hi]

set_option maxRecDepth 100000 in
theorem contract (H : Type) (enc : TypeId × Value → H) (W : World) (base : Nat) (args : Array Value) (ds gs : List (DataW H)) (before : List MemPlace)
    (hval : ∀ (j : Nat) t v, Tryz.f4.params[j]? = some t → args[j]? = some v → Value.okWide Tryz.prog W .any base t v)
    (hW : DataW.Whole enc Tryz.prog Tryz.f4.params.toList Rows.wordNamesSpec.vars false W args.toList ds gs before) (hcond : Rows.uptoSmall H (ds ++ gs) = true) (hL : laidMetH Tryz.prog Rows.wordNamesUptoRow.laid W) (hs : W.ShapedOpen Tryz.prog) :
    Calls Tryz.prog 4 args W fun e W' => ∃ v, e = .returned v ∧ Rows.wordNamesSpec.post enc Tryz.prog Tryz.f4 false true false false W args v W' := by
  have hW' := hW
  obtain ⟨p, q, hA0, hV, rfl, hfz, hnd⟩ := hW
  have hA : DataW.TrodAll enc Tryz.prog W 0 (fun _ => true) true Tryz.f4.params.toList args.toList ds p := hA0
  rw [Tryz.params4] at hA hval
  obtain ⟨v0, v1, v2, v3, d0, d1, d2, d3, p0, p1, p2, p3, rfl, rfl, rfl, h0, h1, h2, h3⟩ := trodAll_four hA
  obtain ⟨rfl, rfl⟩ := trodVars_none hV
  obtain ⟨a0, n0, c0, rfl⟩ := okWide_slice Tryz.underlying23 (hval 0 23 v0 rfl rfl)
  obtain ⟨x1, rfl, rfl, rfl, wx1⟩ := Go.ChangeMaps.open_string Tryz.underlying9 (hval 1 9 v1 rfl rfl) h1
  obtain ⟨x2, rfl, rfl, rfl, wx2⟩ := Go.ChangeMaps.open_string Tryz.underlying9 (hval 2 9 v2 rfl rfl) h2
  obtain ⟨x3, rfl, rfl, rfl, wx3⟩ := Go.ChangeMaps.open_string Tryz.underlying9 (hval 3 9 v3 rfl rfl) h3
  obtain ⟨xs, rfl⟩ : ∃ xs : List UInt8, x1 = ⟨xs.toArray⟩ := ⟨x1.data.toList, by cases x1; simp⟩
  obtain ⟨ys, rfl⟩ : ∃ ys : List UInt8, x2 = ⟨ys.toArray⟩ := ⟨x2.data.toList, by cases x2; simp⟩
  obtain ⟨zs, rfl⟩ : ∃ zs : List UInt8, x3 = ⟨zs.toArray⟩ := ⟨x3.data.toList, by cases x3; simp⟩
  clear hA0
  simp only [List.append_nil] at hW'
  have hlt : ∀ x ∈ p0, x.block < W.heap.size := fun x hx => by simpa using hW'.lt x hx
  have hbulk := bulks.bound hcond
  simp only [List.append_nil, Rows.uptoBulkAll, bulks.string_eq] at hbulk
  obtain ⟨hg, hB⟩ := glo_of rfl hL hs
  obtain ⟨l, hl, hvars⟩ := open_vars h0 (by omega)
  refine (names_any W W.heap.size (.slice a0 n0 c0) l xs ys zs hvars (by omega) (by omega) (by omega) (by omega) hg hB).mono fun e W' ⟨he, hb⟩ => ?_
  subst he
  have t0 := Below.trod (t := 23) isLaidOut (by kernel_rfl) (of_decide_eq_true (by kernel_rfl)) h0 hb hlt
  have t1 := Below.trod (t := 9) isLaidOut (by kernel_rfl) (of_decide_eq_true (by kernel_rfl)) h1 hb (fun x hx => by cases hx)
  have t2 := Below.trod (t := 9) isLaidOut (by kernel_rfl) (of_decide_eq_true (by kernel_rfl)) h2 hb (fun x hx => by cases hx)
  have t3 := Below.trod (t := 9) isLaidOut (by kernel_rfl) (of_decide_eq_true (by kernel_rfl)) h3 hb (fun x hx => by cases hx)
  exact ⟨_, rfl, _, _, _, [], _, [], hW', trodAll_cons_mk (shut_bool Tryz.underlying4 _) trodAll_mk0, trodAll_mk4 t0 t1 t2 t3, rfl, hb.frame _, fun h => by cases h⟩

def witnessArgs : Array Value := #[.slice none 0 0, .string ⟨#[]⟩, .string ⟨#[]⟩, .string ⟨#[]⟩]
theorem laid_met (os : Os) : laidMetH Tryz.prog Rows.wordNamesUptoRow.laid ((World.laidAll Tryz.prog os Rows.wordNamesUptoRow.laid).forCall (fun _ _ => 0) ⟨#[], witnessArgs, []⟩).memory := by
  rw [MakeChecks.laidMetH_plain _ _ _ (by kernel_rfl)]
  exact laidMet_laidAll _ (by kernel_rfl) (by kernel_rfl)
theorem reads (os : Os) {H : Type} (enc : TypeId × Value → H) : ∃ places, DataW.whole enc Tryz.prog ((World.laidAll Tryz.prog os Rows.wordNamesUptoRow.laid).forCall (fun _ _ => 0) ⟨#[], witnessArgs, []⟩).memory Tryz.f4.params.toList Rows.wordNamesSpec.vars false witnessArgs.toList 8 = some ([.nil, .lit (.string []), .lit (.string []), .lit (.string [])], [], places) :=
  ⟨[], by kernel_rfl⟩

set_option maxRecDepth 100000 in
theorem liftedUpto (os : Os) (started : os.Started) (H : Type) (enc : TypeId × Value → H) (F : Stop.Interp) :
    ReturnsInHanded {} Tryz.checked os 4 .any ((Rows.OpenSpec.upto Rows.wordNamesSpec).preRow enc Tryz.prog Tryz.f4 Rows.wordNamesUptoRow.domain false Rows.wordNamesUptoRow.laid) (((Rows.OpenSpec.upto Rows.wordNamesSpec).at F).post enc Tryz.prog Tryz.f4 false true false false) := by
  obtain ⟨places, hx⟩ := reads os enc
  refine returnsInHanded_of_row (C := Tryz.checked) (s := Rows.OpenSpec.upto Rows.wordNamesSpec) own started (by kernel_rfl) Tryz.func4
    (witness_row_atRef (enc := enc) (C := Tryz.checked) false (World.laidAll Tryz.prog os Rows.wordNamesUptoRow.laid) witnessArgs (World.laidAll_os _ _ _) (by kernel_rfl) (by kernel_rfl) (by kernel_rfl)
      (OpenSpec.preRow_of_cond 8 hx (by kernel_rfl) (fun k hk => by cases hk; kernel_rfl) (by kernel_rfl) (laid_met os))) ?_
  intro W base args ds gs before hval hW _ hcond _ hL hs _
  exact contract H enc W base args ds gs before hval hW (hcond _ rfl) hL hs

theorem saidUpto : Rows.WordNamesUptoSaid :=
  OpenClaim.holds_of_cond 4 Tryz.f4 rfl rfl rfl rfl rfl rfl rfl ⟨rfl, rfl, rfl, rfl, rfl⟩ rfl rfl rfl rfl rfl (by kernel_rfl) Tryz.func4 (by kernel_rfl)
    (of_decide_eq_true (by kernel_rfl)) (by unfold Func.isWrapper; first | (rw [if_pos (by decide +kernel)]; kernel_rfl) | (rw [if_neg (by decide +kernel)]; exact ⟨rfl, rfl⟩))
    (fun os started H enc _ F => by rw [OpenClaim.pre_eq_preRow]; exact liftedUpto os started H enc F)

theorem plain (f : FuncId) (fn : Func) (hf : Tryz.pinned.checked.prog.funcNamed "toolchest/toolchestlaw25.WordNames" = some f) (hfn : Tryz.pinned.checked.prog.funcs[f]? = some fn) :
    true = Tryz.pinned.checked.prog.looks [] ∧ ∀ (j : Nat) t, fn.params[j]? = some t → Tryz.pinned.checked.prog.wantsStandIn t = false := by
  obtain rfl : f = 4 := Option.some.inj ((show Tryz.prog.funcNamed "toolchest/toolchestlaw25.WordNames" = some 4 by kernel_rfl).symm.trans hf) |>.symm
  obtain rfl : fn = Tryz.f4 := (Option.some.inj (Tryz.func4.symm.trans hfn)).symm
  refine ⟨by kernel_rfl, fun j t ht => ?_⟩
  rw [Tryz.params4] at ht
  have hm : t ∈ [23, 9, 9, 9] := by simpa using Array.mem_of_getElem? ht
  have hall : ([23, 9, 9, 9].all fun u => !Tryz.prog.wantsStandIn u) = true := by kernel_rfl
  exact (show Tryz.prog.wantsStandIn t = false by simpa using List.all_eq_true.1 hall t hm)

theorem cardUpto : Rows.WordNamesUptoCardSaid :=
  Claim7.holds_tied_plain_at .later [] _ _ _ _ saidUpto (fun _ h => by cases h) (by kernel_rfl) (fun _ h => by cases h) wordNamesUpto_row_tie rfl ⟨rfl, rfl⟩ (by kernel_rfl) rfl plain (by kernel_rfl)

#print axioms cardUpto
end Go.Proofs.YtfoehfehnmhhmaaGreatDoor.names
