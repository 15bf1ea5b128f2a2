/-
  A slice of bytes that comes in, opened.
-/
import Derived.Test.YthdkbbkkijdhfaaGreatDoorOpen
import Derived.OpenShut
namespace Go.Proofs.YthdkbbkkijdhfaaGreatDoor
open Go.ChangeShapes Go.WideShapes Go.ChangeAt Go.RowKit

theorem add_plain' (b o k : Nat) : (⟨b, o, none⟩ : Addr).add k = ⟨b, o + k, none⟩ := by
  simp only [Addr.add]; split <;> simp_all

/-- An address that holds a cell is a plain one. -/
theorem plain_addr {W : World} {a : Addr} {v : Value} (h : W.cell? a = some v) : a = ⟨a.block, a.off, none⟩ := by
  obtain ⟨b, o, s⟩ := a
  unfold World.cell? at h
  cases s with
  | none => rfl
  | some s =>
    split at h
    · simp at h
    · cases h

section
variable {H : Type} {enc : TypeId × Value → H} {W : World}

theorem byte_nat {z : Int} (h : (Lit.int .u8 z).wf = true) : ((UInt8.ofNat z.toNat).toNat : Int) = z := by
  have h2 : 0 ≤ z ∧ z < 256 := by
    have e1 : IntKind.u8.min = 0 := rfl
    have e2 : IntKind.u8.max = 255 := rfl
    have := h
    simp [Lit.wf, e1, e2] at this
    omega
  have : z.toNat < 256 := by omega
  simp [UInt8.toNat_ofNat', Nat.mod_eq_of_lt this]
  omega

/-- A slice of bytes. -/
theorem open_bytes {a0 : Option Addr} {len cap : Nat} {d0 : DataW H} {p : List MemPlace} (h0 : DataW.Trod enc Tryz.prog W 0 (fun _ => true) true 22 (.slice a0 len cap) d0 p) :
    ∃ b : Rx.Bytes, b.length = len ∧ len ≤ cap ∧ (a0 = none → cap = 0) ∧ Bs W a0 b ∧ len ≤ Rows.uptoBulk d0 := by
  obtain ⟨fuel, hf⟩ := h0
  rcases open_ints Tryz.underlying22 Tryz.underlying5 cellsByte hf with ⟨hcs, hx⟩ | ⟨a, len', cap', zs, hcs, _, hl, hm, hz, hx, hcell, hwz⟩
  · simp [Value.cells] at hcs
    obtain ⟨rfl, rfl, rfl⟩ := hcs
    exact ⟨[], rfl, Nat.le_refl _, fun _ => rfl, Bs.nil _ _, Nat.zero_le _⟩
  · simp [Value.cells] at hcs
    obtain ⟨rfl, rfl, rfl⟩ := hcs
    simp only [Prod.mk.injEq] at hx
    obtain ⟨rfl, rfl⟩ := hx
    simp only [if_true] at hz
    refine ⟨(zs.take len).map fun z => UInt8.ofNat z.toNat, by simp; omega, hl, by simp, fun hpos => ?_, ?_⟩
    · simp at hpos
      have hc0 := hcell 0 (by omega)
      have ha : a = ⟨a.block, a.off, none⟩ := plain_addr (a := a) (by simpa [Addr.add] using hc0)
      refine ⟨a.block, a.off, by rw [← ha], fun i hi => ?_⟩
      simp at hi
      have hc := hcell i (by omega)
      rw [ha, add_plain'] at hc
      rw [hc]
      have hw := byte_nat (hwz (zs.getD i 0) (by simp [List.getD_eq_getElem?_getD, List.getElem?_eq_getElem (show i < zs.length by omega)]))
      congr 2
      rw [← hw]
      congr 2
      simp [List.getD_eq_getElem?_getD, show i < len by omega, List.getElem?_eq_getElem (show i < zs.length by omega)]
    · have := bulks.slice_le (lits (H := H) .u8 (zs.take len)) (lits .u8 (zs.drop len))
      simp [lits] at this
      simp [lits]; omega

end

end Go.Proofs.YthdkbbkkijdhfaaGreatDoor
