/-
  What comes in, opened: a slice of bytes, a slice of options; what the row's list gives.
-/
import Derived.Test.YtnhopkjichgckaaDoorBulk
import Derived.Test.YtnhopkjichgckaaDoorCards
import Derived.Test.YtnhopkjichgckaaDoorTie
import Derived.Test.YtnhopkjichgckaaDoorW15
import Derived.ProofKit
import Derived.OpenShut
import Derived.Lay
import Derived.MakeChecks
import Derived.Stop.LaidErr
import Derived.Deep.SlicePairs
import Derived.Deep.Strs
import Derived.Deep.DeepHandedRow
import Derived.Deep.DeepWitnessRowRef
namespace Go.Proofs.YtnhopkjichgckaaDoor
open Go.ChangeShapes Go.WideShapes Go.ChangeAt Go.RowKit

theorem own : ownKnob Tryd.prog.godebug = none := by kernel_rfl
theorem isLaidOut : laidOutB Tryd.prog = true := by kernel_rfl
theorem cellsByte : Tryd.prog.cellsOf 5 = 1 := by kernel_rfl
theorem cellsStr : Tryd.prog.cellsOf 9 = 1 := by kernel_rfl
theorem cellsOpt : Tryd.prog.cellsOf 43 = 2 := by kernel_rfl
theorem cellsErr : Tryd.prog.cellsOf 120 = 1 := by kernel_rfl
theorem errStar : "*" ++ "errors.errorString" = "*errors.errorString" := by decide
theorem rowErr (u : TypeId) (h : Tryd.prog.typeName? 3 u = some "*errors.errorString") : u = 118 :=
  typeName_ptr_named (nm := "errors.errorString") (by rw [errStar]; kernel_rfl) (by kernel_rfl) (by decide) u (by rw [errStar]; exact h)
theorem gRngType : (Tryd.prog.globals[4]?).map (·.type) = some 86 := by kernel_rfl
theorem gSynType : (Tryd.prog.globals[3]?).map (·.type) = some 86 := by kernel_rfl
theorem gTab64 : Tryd.prog.globalNamed "math/bits.deBruijn64tab" = some 7 := by kernel_rfl

/-- An address that holds a cell is a plain one. -/
theorem plain_addr {W : World} {a : Addr} {v : Value} (h : W.cell? a = some v) : a = ⟨a.block, a.off, none⟩ := by
  obtain ⟨b, o, s⟩ := a
  unfold World.cell? at h
  cases s with
  | none => rfl
  | some s =>
    split at h
    · simp at h
    · cases h

section
variable {H : Type} {enc : TypeId × Value → H} {W : World}

theorem byte_nat {z : Int} (h : (Lit.int .u8 z).wf = true) : ((UInt8.ofNat z.toNat).toNat : Int) = z := by
  have h2 : 0 ≤ z ∧ z < 256 := by
    have e1 : IntKind.u8.min = 0 := rfl
    have e2 : IntKind.u8.max = 255 := rfl
    have := h
    simp [Lit.wf, e1, e2] at this
    omega
  have : z.toNat < 256 := by omega
  simp [UInt8.toNat_ofNat', Nat.mod_eq_of_lt this]
  omega

/-- A slice of bytes. -/
theorem open_bytes {a0 : Option Addr} {len cap : Nat} {d0 : DataW H} {p : List MemPlace} (h0 : DataW.Trod enc Tryd.prog W 0 (fun _ => true) true 23 (.slice a0 len cap) d0 p) :
    ∃ b : Ord.Bytes, b.length = len ∧ len ≤ cap ∧ (a0 = none → cap = 0) ∧ Bs W a0 b ∧ len ≤ Rows.uptoBulk d0 := by
  obtain ⟨fuel, hf⟩ := h0
  rcases open_ints Tryd.underlying23 Tryd.underlying5 cellsByte hf with ⟨hcs, hx⟩ | ⟨a, len', cap', zs, hcs, _, hl, hm, hz, hx, hcell, hwz⟩
  · simp [Value.cells] at hcs
    obtain ⟨rfl, rfl, rfl⟩ := hcs
    exact ⟨[], rfl, Nat.le_refl _, fun _ => rfl, Bs.nil _ _, Nat.zero_le _⟩
  · simp [Value.cells] at hcs
    obtain ⟨rfl, rfl, rfl⟩ := hcs
    simp only [Prod.mk.injEq] at hx
    obtain ⟨rfl, rfl⟩ := hx
    simp only [if_true] at hz
    refine ⟨(zs.take len).map fun z => UInt8.ofNat z.toNat, by simp; omega, hl, by simp, fun hpos => ?_, ?_⟩
    · simp at hpos
      have hc0 := hcell 0 (by omega)
      have ha : a = ⟨a.block, a.off, none⟩ := plain_addr (a := a) (by simpa [Addr.add] using hc0)
      refine ⟨a.block, a.off, by rw [← ha], fun i hi => ?_⟩
      simp at hi
      have hc := hcell i (by omega)
      rw [ha, add_plain'] at hc
      rw [hc]
      have hw := byte_nat (hwz (zs.getD i 0) (by simp [List.getD_eq_getElem?_getD, List.getElem?_eq_getElem (show i < zs.length by omega)]))
      congr 2
      rw [← hw]
      congr 2
      simp [List.getD_eq_getElem?_getD, show i < len by omega, List.getElem?_eq_getElem (show i < zs.length by omega)]
    · have := bulks.slice_le (lits (H := H) .u8 (zs.take len)) (lits .u8 (zs.drop len))
      simp [lits] at this
      simp [lits]; omega

/-- A slice of options. -/
theorem open_opts {a0 : Option Addr} {len cap : Nat} {d0 : DataW H} {p : List MemPlace} (h0 : DataW.Trod enc Tryd.prog W 0 (fun _ => true) true 22 (.slice a0 len cap) d0 p) :
    ∃ l : List Ord.Opt, l.length = len ∧ OptsIn W a0 l ∧ len ≤ Rows.uptoBulk d0 ∧ ∀ i, (l.getD i (0, [])).2.length ≤ Rows.uptoBulk d0 := by
  obtain ⟨fuel, hf⟩ := h0
  rcases Deep.open_slice_pairs Tryd.underlying22 Tryd.underlying43 cellsOpt rfl rfl cellsByte cellsStr hf with ⟨hcs, hx⟩ | ⟨a, len', cap', m, n, V0, V1, D0, D1, P0, P1, hcs, _, hl, hm, hmm, hx, hall⟩
  · simp [Value.cells] at hcs
    obtain ⟨rfl, rfl, rfl⟩ := hcs
    exact ⟨[], rfl, OptsIn.nil _ _, Nat.zero_le _, fun i => by simp⟩
  · simp [Value.cells] at hcs
    obtain ⟨rfl, rfl, rfl⟩ := hcs
    simp only [Prod.mk.injEq] at hx
    obtain ⟨rfl, rfl⟩ := hx
    simp only [if_true] at hmm
    subst hmm
    have each : ∀ i, i < len → ∃ x : Ord.Opt, V0 i = .int .u8 x.1.toNat ∧ V1 i = .string ⟨x.2.toArray⟩ ∧ D1 i = .lit (.string x.2) := fun i hi => by
      obtain ⟨_, _, e0, e1⟩ := hall i (by omega)
      obtain ⟨z, g1, _, g3⟩ := DataW.trod_int Tryd.underlying5 e0
      obtain ⟨s, k1, k2, _⟩ := DataW.trod_string Tryd.underlying9 e1
      simp only [Prod.mk.injEq] at k2
      refine ⟨(UInt8.ofNat z.toNat, s.data.toList), ?_, ?_, k2.1⟩
      · have : V0 i = .int .u8 z := by simpa using g1
        rw [this, byte_nat g3]
      · have : V1 i = .string s := by simpa using k1
        rw [this]
    obtain ⟨X, hX⟩ := Deep.choose_lt each
    have hlen : ((List.range len).map X).length = len := by simp
    have hget : ∀ i, i < len → ((List.range len).map X).getD i (0, []) = X i := fun i hi => by simp [List.getD_eq_getElem?_getD, List.getElem?_range hi]
    refine ⟨(List.range len).map X, hlen, fun hpos => ?_, ?_, fun i => ?_⟩
    · rw [hlen] at hpos
      have ha : a = ⟨a.block, a.off, none⟩ := plain_addr (a := a) (by simpa [Addr.add] using (hall 0 (by omega)).1)
      refine ⟨a.block, a.off, by rw [← ha], fun i hi => ?_⟩
      rw [hlen] at hi
      obtain ⟨c0, c1, _⟩ := hall i (by omega)
      rw [ha, add_plain'] at c0 c1
      rw [hget i hi]
      exact ⟨by rw [c0, (hX i hi).1], by rw [Nat.add_assoc, c1, (hX i hi).2.1]⟩
    · have := bulks.slice_le ((List.range len).map fun i => DataW.agg [D0 i, D1 i]) ((List.range (m - len)).map fun j => .agg [D0 (len + j), D1 (len + j)])
      simp only [List.length_map, List.length_range] at this
      omega
    · by_cases hi : i < len
      · rw [hget i hi]
        have h1 := bulks.slice_elems ((List.range len).map fun i => DataW.agg [D0 i, D1 i]) ((List.range (m - len)).map fun j => .agg [D0 (len + j), D1 (len + j)])
        have h2 := bulks.part_le (d := DataW.agg [D0 i, D1 i]) (l := (List.range len).map fun i => DataW.agg [D0 i, D1 i]) (List.mem_map.2 ⟨i, List.mem_range.2 hi, rfl⟩)
        have h3 : (X i).2.length + 1 ≤ Rows.uptoBulk (DataW.agg [D0 i, D1 i]) := by
          rw [(hX i hi).2.2]
          simp only [Rows.uptoBulk, Rows.uptoBulkAll]
          omega
        omega
      · have : ((List.range len).map X).getD i (0, []) = (0, []) := by simp [List.getD_eq_getElem?_getD, List.getElem?_eq_none (show ((List.range len).map X).length ≤ i by simp; omega)]
        rw [this]; simp

/-- What the rows' list gives. -/
theorem glo_of {L : List (String × DataW Unit)} (hL : L = Rows.orderOrdersUptoRow.laid) (h : laidMetH Tryd.prog L W) : Glo W ∧ 8 ≤ W.heap.size := by
  subst hL
  rw [MakeChecks.laidMetH_plain _ _ _ (by kernel_rfl)] at h
  have h1 := h.tail
  have h4 := h1.tail.tail.tail
  obtain ⟨a1, s1, hv1, _⟩ := laid_sentinel h4 gRng gRngType Tryd.underlying86 rowErr Tryd.underlying118 Tryd.underlying120 rfl rfl Tryd.underlying9 cellsErr cellsStr
  obtain ⟨a2, s2, hv2, _⟩ := laid_sentinel h4.tail gSyn gSynType Tryd.underlying86 rowErr Tryd.underlying118 Tryd.underlying120 rfl rfl Tryd.underlying9 cellsErr cellsStr
  refine ⟨⟨⟨_, _, hv2⟩, ⟨_, _, hv1⟩⟩, ?_⟩
  obtain ⟨ps, ⟨g, t, cs, fuel, p, q, hg, ht, hv, _⟩, _⟩ := h1
  unfold World.var? at hv
  rw [gTab64] at hv
  simp only [Option.bind_some] at hv
  rcases Nat.lt_or_ge 7 W.heap.size with h' | h'
  · omega
  · rw [Array.getElem?_eq_none h'] at hv; cases hv
end

end Go.Proofs.YtnhopkjichgckaaDoor
