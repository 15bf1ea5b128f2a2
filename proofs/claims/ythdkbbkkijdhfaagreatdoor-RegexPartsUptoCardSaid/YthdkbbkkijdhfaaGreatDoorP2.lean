/-
  The walk of RegexParts. Conditions: the texts are shorter than 2^30 bytes; the library's variables hold what they hold.
-/
import Derived.Test.YthdkbbkkijdhfaaGreatDoorP1
import Derived.BigRegion
namespace Go.Proofs.YthdkbbkkijdhfaaGreatDoor
open Go.RowKit Go.Shelf Go.Maps

def tS (T : Option Rx.Bytes) : ByteArray := ⟨(T.getD []).toArray⟩
theorem tellVal_eq (T : Option Rx.Bytes) : tellVal T = .tuple #[.string (tS T), .bool T.isSome] := by cases T <;> rfl

theorem ret_true {a : Value} (h : a = .bool true) : Ending.returned a = Ending.returned (.bool true) := by rw [h]

theorem told_none : (Rx.Nd.set fun _ => false).told = [60, 62] := by
  have : Rx.ranges (fun _ => false) = [60, 62] := by decide +kernel
  simp [Rx.Nd.told, this]

set_option maxHeartbeats 6400000 in
set_option maxRecDepth 100000 in
theorem RegexParts_any (p q : Rx.Bytes) (m n : Int) (fold : Bool) (w : World) (hg : Glo w) (h8 : 8 ≤ w.heap.size) (hlp : p.length < 1073741824) (hlq : q.length < 1073741824) :
    Calls Tryz.prog 7 #[.string ⟨p.toArray⟩, .string ⟨q.toArray⟩, .int .i64 m, .int .i64 n, .bool fold] w fun e w' => e = .returned (.bool true) ∧ Below w.heap.size w w' := by
  have ha := awake_any w hg h8
  have HG := Lib.hid hg
  have hcp := fun w => lawClasses_any p w hlp
  have hcq := fun w => lawClasses_any q w hlq
  clear hg
  by_cases hearly : Rx.cl p = true ∨ Rx.cl q = true ∨ 1000 < p.length + q.length
  · go_enter Tryz.func7, Tryz.ntmps7
    go_wp2_with fail
    refine ha.mono ?_
    rintro e w1 ⟨rfl, b1⟩
    have B1 := Lib.hid b1
    clear ha b1
    go_wp2_with fail
    refine (hcp w1).mono ?_
    rintro e w2 ⟨rfl, rfl⟩
    clear hcp
    by_cases h1 : Rx.cl p = true
    · rw [h1]
      clear hearly
      go_wp2_with fail
      go_ret
      exact ⟨rfl, B1.out⟩
    · have h1' : Rx.cl p = false := by simpa using h1
      rw [h1']
      go_wp2_with fail
      refine (hcq w2).mono ?_
      rintro e w3 ⟨rfl, rfl⟩
      clear hcq
      by_cases h2 : Rx.cl q = true
      · rw [h2]
        clear hearly
        go_wp2_with fail
        go_ret
        exact ⟨rfl, B1.out⟩
      · have h2' : Rx.cl q = false := by simpa using h2
        have h3 : (1000 : Int) < (p.length : Int) + (q.length : Int) := by
          rcases hearly with h | h | h
          · exact absurd h h1
          · exact absurd h h2
          · omega
        rw [h2']
        clear hearly
        go_wp2_with fail
        go_ret
        exact ⟨rfl, B1.out⟩
  · have h1 : Rx.cl p = false := by
      cases hx : Rx.cl p with
      | false => rfl
      | true => exact absurd (.inl hx) hearly
    have h2 : Rx.cl q = false := by
      cases hx : Rx.cl q with
      | false => rfl
      | true => exact absurd (.inr (.inl hx)) hearly
    have h3 : p.length + q.length ≤ 1000 := by
      rcases Nat.lt_or_ge 1000 (p.length + q.length) with h | h
      · exact absurd (.inr (.inr h)) hearly
      · exact h
    have h3' : ¬ (1000 : Int) < (p.length : Int) + (q.length : Int) := by omega
    rw [h1] at hcp
    rw [h2] at hcq
    have HCP := Lib.hid h1
    have HCQ := Lib.hid h2
    have tp := fun w hg h8 => told15_any p true fold w hg h8 hlp
    have tq := fun w hg h8 => told15_any q true fold w hg h8 hlq
    simp only [tellVal_eq] at tp tq
    obtain ⟨XP, hXP⟩ : ∃ X, tS (Rx.tellOf p true fold) = X := ⟨_, rfl⟩
    obtain ⟨ZP, hZP⟩ : ∃ Z, (Rx.tellOf p true fold).isSome = Z := ⟨_, rfl⟩
    obtain ⟨XQ, hXQ⟩ : ∃ X, tS (Rx.tellOf q true fold) = X := ⟨_, rfl⟩
    obtain ⟨ZQ, hZQ⟩ : ∃ Z, (Rx.tellOf q true fold).isSome = Z := ⟨_, rfl⟩
    rw [hXP, hZP] at tp
    rw [hXQ, hZQ] at tq
    have HXP := Lib.hid hXP
    have HZP := Lib.hid hZP
    have HXQ := Lib.hid hXQ
    have HZQ := Lib.hid hZQ
    clear h1 h2 hearly hXP hZP hXQ hZQ
    go_enter Tryz.func7, Tryz.ntmps7
    go_wp2_with fail
    refine ha.mono ?_
    rintro e w1 ⟨rfl, b1⟩
    obtain ⟨g1, i1⟩ := HG.out.step h8 b1
    clear ha
    go_wp2_with fail
    refine (hcp w1).mono ?_
    rintro e w2 ⟨rfl, rfl⟩
    clear hcp
    go_wp2_with fail
    refine (hcq w2).mono ?_
    rintro e w3 ⟨rfl, rfl⟩
    clear hcq
    go_wp2_with fail
    refine (tp w3 g1 i1).mono ?_
    rintro e w4 ⟨rfl, b4⟩
    obtain ⟨g4, i4⟩ := g1.step i1 b4
    have d4 := b1.trans (b4.mono b1.size)
    clear tp b1 b4 g1 i1
    go_wp2_with fail
    refine (tq w4 g4 i4).mono ?_
    rintro e w5 ⟨rfl, b5⟩
    obtain ⟨g5, i5⟩ := g4.step i4 b5
    have d5 := d4.trans (b5.mono d4.size)
    clear tq b5 d4 g4 i4
    cases ZP with
    | false =>
      go_wp2_with fail
      go_ret
      exact ⟨rfl, d5⟩
    | true =>
    cases ZQ with
    | false =>
      go_wp2_with fail
      go_ret
      exact ⟨rfl, d5⟩
    | true =>
    by_cases hm0 : m < 0
    · go_wp2_with fail
      go_ret
      exact ⟨rfl, d5⟩
    by_cases hnm : n < m
    · go_wp2_with fail
      go_ret
      exact ⟨rfl, d5⟩
    by_cases hn255 : 255 < n
    · go_wp2_with fail
      go_ret
      exact ⟨rfl, d5⟩
    obtain ⟨x, hx⟩ := Option.isSome_iff_exists.1 HZP.out
    obtain ⟨y, hy⟩ := Option.isSome_iff_exists.1 HZQ.out
    obtain ⟨np, hrp, hsp, rfl⟩ := Rx.tell_inv hx
    obtain ⟨nq, hrq, hsq, rfl⟩ := Rx.tell_inv hy
    obtain rfl : XP = ⟨np.told.toArray⟩ := by rw [← HXP.out, hx]; rfl
    obtain rfl : XQ = ⟨nq.told.toArray⟩ := by rw [← HXQ.out, hy]; rfl
    obtain ⟨mm, rfl⟩ : ∃ k : Nat, m = k := ⟨m.toNat, by omega⟩
    obtain ⟨nn, rfl⟩ : ∃ k : Nat, n = k := ⟨n.toNat, by omega⟩
    have hlx : np.told.length + 1 ≤ 20000000 := by have := told_le np (by omega); omega
    have hly : nq.told.length + 1 ≤ 20000000 := by have := told_le nq (by omega); omega
    have hldm := digits10_len mm (by omega)
    have hldn := digits10_len nn (by omega)
    have hdm := fun w hg => digits10_any mm (by omega) w hg
    have hdn := fun w hg => digits10_any nn (by omega) w hg
    have lawC := Rx.tell_both hrp hrq HCP.out HCQ.out
    have lawD := Rx.tell_or hrp hrq HCP.out HCQ.out
    have lawE := Rx.tell_rep hrp HCP.out mm nn (by omega) (by omega)
    have sAny : (Rx.Nd.alt [np, nq]).told = 40 :: (np.told ++ 124 :: nq.told) ++ [41] := by simp [Rx.Nd.told, Rx.tolds, Rx.sepBy]
    have sWhole : (Rx.Nd.cat [.beg, np, .fin]).told = 40 :: 94 :: (np.told ++ [36, 41]) := by simp [Rx.Nd.told, Rx.tolds, Rx.sepBy]
    have pp := fun w hg h8 => Parse_any p true fold w hg h8 hlp
    have pq := fun w hg h8 => Parse_any q true fold w hg h8 hlq
    rw [hrp] at pp
    rw [hrq] at pq
    unfold ParsePost at pp pq
    simp only [if_neg (Nat.not_lt.2 hsp)] at pp
    simp only [if_neg (Nat.not_lt.2 hsq)] at pq
    have sa := fun (w : World) (B r : Nat) h hg h8 => String_any B r (.alt [np, nq]) w h hg h8 (by rw [sAny]; simp; omega)
    have sw := fun (w : World) (B r : Nat) h hg h8 => String_any B r (.cat [.beg, np, .fin]) w h hg h8 (by rw [sWhole]; simp; omega)
    rw [sAny] at sa
    rw [sWhole] at sw
    have HRP := Lib.hid hrp
    clear hx hy hrp hrq
    generalize np.told = x at *
    generalize nq.told = y at *
    generalize Rx.digitsF 10 20 mm = dm at *
    generalize Rx.digitsF 10 20 nn = dn at *
    obtain ⟨C1, hC1⟩ : ∃ L : Rx.Bytes, [40] ++ p = L := ⟨_, rfl⟩
    have eC1 : (⟨#[40]⟩ : ByteArray) ++ ⟨(p : Rx.Bytes).toArray⟩ = ⟨C1.toArray⟩ := by rw [← hC1]; apply ByteArray.ext; simp
    have nC1 : C1.length ≤ 1001 := by rw [← hC1]; simp; omega
    obtain ⟨C2, hC2⟩ : ∃ L : Rx.Bytes, C1 ++ [41, 40] = L := ⟨_, rfl⟩
    have eC2 : (⟨(C1 : Rx.Bytes).toArray⟩ : ByteArray) ++ ⟨#[41, 40]⟩ = ⟨C2.toArray⟩ := by rw [← hC2]; apply ByteArray.ext; simp
    have nC2 : C2.length ≤ 1003 := by rw [← hC2]; simp; omega
    obtain ⟨C3, hC3⟩ : ∃ L : Rx.Bytes, C2 ++ q = L := ⟨_, rfl⟩
    have eC3 : (⟨(C2 : Rx.Bytes).toArray⟩ : ByteArray) ++ ⟨(q : Rx.Bytes).toArray⟩ = ⟨C3.toArray⟩ := by rw [← hC3]; apply ByteArray.ext; simp
    have nC3 : C3.length ≤ 2003 := by rw [← hC3]; simp; omega
    obtain ⟨C4, hC4⟩ : ∃ L : Rx.Bytes, C3 ++ [41] = L := ⟨_, rfl⟩
    have eC4 : (⟨(C3 : Rx.Bytes).toArray⟩ : ByteArray) ++ ⟨#[41]⟩ = ⟨C4.toArray⟩ := by rw [← hC4]; apply ByteArray.ext; simp
    have nC4 : C4.length ≤ 2004 := by rw [← hC4]; simp; omega
    obtain ⟨D2, hD2⟩ : ∃ L : Rx.Bytes, C1 ++ [41, 124, 40] = L := ⟨_, rfl⟩
    have eD2 : (⟨(C1 : Rx.Bytes).toArray⟩ : ByteArray) ++ ⟨#[41, 124, 40]⟩ = ⟨D2.toArray⟩ := by rw [← hD2]; apply ByteArray.ext; simp
    have nD2 : D2.length ≤ 1004 := by rw [← hD2]; simp; omega
    obtain ⟨D3, hD3⟩ : ∃ L : Rx.Bytes, D2 ++ q = L := ⟨_, rfl⟩
    have eD3 : (⟨(D2 : Rx.Bytes).toArray⟩ : ByteArray) ++ ⟨(q : Rx.Bytes).toArray⟩ = ⟨D3.toArray⟩ := by rw [← hD3]; apply ByteArray.ext; simp
    have nD3 : D3.length ≤ 2004 := by rw [← hD3]; simp; omega
    obtain ⟨D4, hD4⟩ : ∃ L : Rx.Bytes, D3 ++ [41] = L := ⟨_, rfl⟩
    have eD4 : (⟨(D3 : Rx.Bytes).toArray⟩ : ByteArray) ++ ⟨#[41]⟩ = ⟨D4.toArray⟩ := by rw [← hD4]; apply ByteArray.ext; simp
    have nD4 : D4.length ≤ 2005 := by rw [← hD4]; simp; omega
    obtain ⟨E2, hE2⟩ : ∃ L : Rx.Bytes, C1 ++ [41, 123] = L := ⟨_, rfl⟩
    have eE2 : (⟨(C1 : Rx.Bytes).toArray⟩ : ByteArray) ++ ⟨#[41, 123]⟩ = ⟨E2.toArray⟩ := by rw [← hE2]; apply ByteArray.ext; simp
    have nE2 : E2.length ≤ 1003 := by rw [← hE2]; simp; omega
    obtain ⟨E3, hE3⟩ : ∃ L : Rx.Bytes, E2 ++ dm = L := ⟨_, rfl⟩
    have eE3 : (⟨(E2 : Rx.Bytes).toArray⟩ : ByteArray) ++ ⟨(dm : Rx.Bytes).toArray⟩ = ⟨E3.toArray⟩ := by rw [← hE3]; apply ByteArray.ext; simp
    have nE3 : E3.length ≤ 1006 := by rw [← hE3]; simp; omega
    obtain ⟨E4, hE4⟩ : ∃ L : Rx.Bytes, E3 ++ [44] = L := ⟨_, rfl⟩
    have eE4 : (⟨(E3 : Rx.Bytes).toArray⟩ : ByteArray) ++ ⟨#[44]⟩ = ⟨E4.toArray⟩ := by rw [← hE4]; apply ByteArray.ext; simp
    have nE4 : E4.length ≤ 1007 := by rw [← hE4]; simp; omega
    obtain ⟨E5, hE5⟩ : ∃ L : Rx.Bytes, E4 ++ dn = L := ⟨_, rfl⟩
    have eE5 : (⟨(E4 : Rx.Bytes).toArray⟩ : ByteArray) ++ ⟨(dn : Rx.Bytes).toArray⟩ = ⟨E5.toArray⟩ := by rw [← hE5]; apply ByteArray.ext; simp
    have nE5 : E5.length ≤ 1010 := by rw [← hE5]; simp; omega
    obtain ⟨E6, hE6⟩ : ∃ L : Rx.Bytes, E5 ++ [125] = L := ⟨_, rfl⟩
    have eE6 : (⟨(E5 : Rx.Bytes).toArray⟩ : ByteArray) ++ ⟨#[125]⟩ = ⟨E6.toArray⟩ := by rw [← hE6]; apply ByteArray.ext; simp
    have nE6 : E6.length ≤ 1011 := by rw [← hE6]; simp; omega
    obtain ⟨F1, hF1⟩ : ∃ L : Rx.Bytes, [40] ++ x = L := ⟨_, rfl⟩
    have eF1 : (⟨#[40]⟩ : ByteArray) ++ ⟨(x : Rx.Bytes).toArray⟩ = ⟨F1.toArray⟩ := by rw [← hF1]; apply ByteArray.ext; simp
    have nF1 : F1.length ≤ 20000001 := by rw [← hF1]; simp; omega
    obtain ⟨F2, hF2⟩ : ∃ L : Rx.Bytes, F1 ++ y = L := ⟨_, rfl⟩
    have eF2 : (⟨(F1 : Rx.Bytes).toArray⟩ : ByteArray) ++ ⟨(y : Rx.Bytes).toArray⟩ = ⟨F2.toArray⟩ := by rw [← hF2]; apply ByteArray.ext; simp
    have nF2 : F2.length ≤ 40000001 := by rw [← hF2]; simp; omega
    obtain ⟨F3, hF3⟩ : ∃ L : Rx.Bytes, F2 ++ [41] = L := ⟨_, rfl⟩
    have eF3 : (⟨(F2 : Rx.Bytes).toArray⟩ : ByteArray) ++ ⟨#[41]⟩ = ⟨F3.toArray⟩ := by rw [← hF3]; apply ByteArray.ext; simp
    have nF3 : F3.length ≤ 40000002 := by rw [← hF3]; simp; omega
    obtain ⟨G2, hG2⟩ : ∃ L : Rx.Bytes, F1 ++ [124] = L := ⟨_, rfl⟩
    have eG2 : (⟨(F1 : Rx.Bytes).toArray⟩ : ByteArray) ++ ⟨#[124]⟩ = ⟨G2.toArray⟩ := by rw [← hG2]; apply ByteArray.ext; simp
    have nG2 : G2.length ≤ 20000002 := by rw [← hG2]; simp; omega
    obtain ⟨G3, hG3⟩ : ∃ L : Rx.Bytes, G2 ++ y = L := ⟨_, rfl⟩
    have eG3 : (⟨(G2 : Rx.Bytes).toArray⟩ : ByteArray) ++ ⟨(y : Rx.Bytes).toArray⟩ = ⟨G3.toArray⟩ := by rw [← hG3]; apply ByteArray.ext; simp
    have nG3 : G3.length ≤ 40000002 := by rw [← hG3]; simp; omega
    obtain ⟨G4, hG4⟩ : ∃ L : Rx.Bytes, G3 ++ [41] = L := ⟨_, rfl⟩
    have eG4 : (⟨(G3 : Rx.Bytes).toArray⟩ : ByteArray) ++ ⟨#[41]⟩ = ⟨G4.toArray⟩ := by rw [← hG4]; apply ByteArray.ext; simp
    have nG4 : G4.length ≤ 40000003 := by rw [← hG4]; simp; omega
    obtain ⟨K1, hK1⟩ : ∃ L : Rx.Bytes, x ++ [123] = L := ⟨_, rfl⟩
    have eK1 : (⟨(x : Rx.Bytes).toArray⟩ : ByteArray) ++ ⟨#[123]⟩ = ⟨K1.toArray⟩ := by rw [← hK1]; apply ByteArray.ext; simp
    have nK1 : K1.length ≤ 20000001 := by rw [← hK1]; simp; omega
    obtain ⟨K2, hK2⟩ : ∃ L : Rx.Bytes, K1 ++ dm = L := ⟨_, rfl⟩
    have eK2 : (⟨(K1 : Rx.Bytes).toArray⟩ : ByteArray) ++ ⟨(dm : Rx.Bytes).toArray⟩ = ⟨K2.toArray⟩ := by rw [← hK2]; apply ByteArray.ext; simp
    have nK2 : K2.length ≤ 20000004 := by rw [← hK2]; simp; omega
    obtain ⟨K3, hK3⟩ : ∃ L : Rx.Bytes, K2 ++ [44] = L := ⟨_, rfl⟩
    have eK3 : (⟨(K2 : Rx.Bytes).toArray⟩ : ByteArray) ++ ⟨#[44]⟩ = ⟨K3.toArray⟩ := by rw [← hK3]; apply ByteArray.ext; simp
    have nK3 : K3.length ≤ 20000005 := by rw [← hK3]; simp; omega
    obtain ⟨K4, hK4⟩ : ∃ L : Rx.Bytes, K3 ++ dn = L := ⟨_, rfl⟩
    have eK4 : (⟨(K3 : Rx.Bytes).toArray⟩ : ByteArray) ++ ⟨(dn : Rx.Bytes).toArray⟩ = ⟨K4.toArray⟩ := by rw [← hK4]; apply ByteArray.ext; simp
    have nK4 : K4.length ≤ 20000008 := by rw [← hK4]; simp; omega
    obtain ⟨K5, hK5⟩ : ∃ L : Rx.Bytes, K4 ++ [125] = L := ⟨_, rfl⟩
    have eK5 : (⟨(K4 : Rx.Bytes).toArray⟩ : ByteArray) ++ ⟨#[125]⟩ = ⟨K5.toArray⟩ := by rw [← hK5]; apply ByteArray.ext; simp
    have nK5 : K5.length ≤ 20000009 := by rw [← hK5]; simp; omega
    obtain ⟨V1, hV1⟩ : ∃ L : Rx.Bytes, [40, 94] ++ x = L := ⟨_, rfl⟩
    have eV1 : (⟨#[40, 94]⟩ : ByteArray) ++ ⟨(x : Rx.Bytes).toArray⟩ = ⟨V1.toArray⟩ := by rw [← hV1]; apply ByteArray.ext; simp
    have nV1 : V1.length ≤ 20000002 := by rw [← hV1]; simp; omega
    obtain ⟨V2, hV2⟩ : ∃ L : Rx.Bytes, V1 ++ [36, 41] = L := ⟨_, rfl⟩
    have eV2 : (⟨(V1 : Rx.Bytes).toArray⟩ : ByteArray) ++ ⟨#[36, 41]⟩ = ⟨V2.toArray⟩ := by rw [← hV2]; apply ByteArray.ext; simp
    have nV2 : V2.length ≤ 20000004 := by rw [← hV2]; simp; omega
    have lC : np.size + nq.size < 9999 → Rx.tellOf C4 true fold = some F3 := fun h => by
      have h1 : C4 = 40 :: (p ++ 41 :: 40 :: (q ++ [41])) := by rw [← hC4, ← hC3, ← hC2, ← hC1]; simp
      have h2 : F3 = 40 :: (x ++ y) ++ [41] := by rw [← hF3, ← hF2, ← hF1]; simp
      rw [h1, h2]; exact lawC h
    have lD : np.size + nq.size < 9999 → Rx.tellOf D4 true fold = some G4 := fun h => by
      have h1 : D4 = 40 :: (p ++ 41 :: 124 :: 40 :: (q ++ [41])) := by rw [← hD4, ← hD3, ← hD2, ← hC1]; simp
      have h2 : G4 = 40 :: (x ++ 124 :: y) ++ [41] := by rw [← hG4, ← hG3, ← hG2, ← hF1]; simp
      rw [h1, h2]; exact lawD h
    have lE : np.size * (nn + 1) < 9999 → Rx.tellOf E6 true fold = some K5 := fun h => by
      have h1 : E6 = 40 :: (p ++ 41 :: 123 :: (dm ++ 44 :: (dn ++ [125]))) := by rw [← hE6, ← hE5, ← hE4, ← hE3, ← hE2, ← hC1]; simp
      have h2 : K5 = x ++ 123 :: (dm ++ 44 :: (dn ++ [125])) := by rw [← hK5, ← hK4, ← hK3, ← hK2, ← hK1]; simp
      rw [h1, h2]; exact lawE h
    rw [show (40 :: (x ++ 124 :: y) ++ [41] : Rx.Bytes) = G4 by rw [← hG4, ← hG3, ← hG2, ← hF1]; simp] at sa
    rw [show (40 :: 94 :: (x ++ [36, 41]) : Rx.Bytes) = V2 by rw [← hV2, ← hV1]; simp] at sw
    have tc := fun w hg h8 => told15_any C4 true fold w hg h8 (by omega)
    have td := fun w hg h8 => told15_any D4 true fold w hg h8 (by omega)
    have te := fun w hg h8 => told15_any E6 true fold w hg h8 (by omega)
    simp only [tellVal_eq] at tc td te
    obtain ⟨XC, hXC⟩ : ∃ X, tS (Rx.tellOf C4 true fold) = X := ⟨_, rfl⟩
    obtain ⟨ZC, hZC⟩ : ∃ Z, (Rx.tellOf C4 true fold).isSome = Z := ⟨_, rfl⟩
    obtain ⟨XD, hXD⟩ : ∃ X, tS (Rx.tellOf D4 true fold) = X := ⟨_, rfl⟩
    obtain ⟨ZD, hZD⟩ : ∃ Z, (Rx.tellOf D4 true fold).isSome = Z := ⟨_, rfl⟩
    obtain ⟨XE, hXE⟩ : ∃ X, tS (Rx.tellOf E6 true fold) = X := ⟨_, rfl⟩
    obtain ⟨ZE, hZE⟩ : ∃ Z, (Rx.tellOf E6 true fold).isSome = Z := ⟨_, rfl⟩
    rw [hXC, hZC] at tc
    rw [hXD, hZD] at td
    rw [hXE, hZE] at te
    have HSUM : Hid ((np.size + nq.size < 9999 → (XC = ⟨F3.toArray⟩ ∧ ZC = true) ∧ (XD = ⟨G4.toArray⟩ ∧ ZD = true)) ∧ (np.size * (nn + 1) < 9999 → XE = ⟨K5.toArray⟩ ∧ ZE = true)) := by
      refine ⟨fun h => ⟨⟨?_, ?_⟩, ?_, ?_⟩, fun h => ⟨?_, ?_⟩⟩
      · rw [← hXC, lC h]; rfl
      · rw [← hZC, lC h]; rfl
      · rw [← hXD, lD h]; rfl
      · rw [← hZD, lD h]; rfl
      · rw [← hXE, lE h]; rfl
      · rw [← hZE, lE h]; rfl
    clear lC lD lE lawC lawD lawE sAny sWhole hXC hZC hXD hZD hXE hZE hC1 hC2 hC3 hC4 hD2 hD3 hD4 hE2 hE3 hE4 hE5 hE6 hF1 hF2 hF3 hG2 hG3 hG4 hK1 hK2 hK3 hK4 hK5 hV1 hV2
    have hm0' : ¬ ((mm : Nat) : Int) < 0 := by omega
    go_wp2_with fail
    refine (tc w5 g5 i5).mono ?_
    rintro e w6 ⟨rfl, b6⟩
    obtain ⟨g6, i6⟩ := g5.step i5 b6
    have d6 := d5.trans (b6.mono d5.size)
    clear tc b6 d5 g5 i5
    go_wp2_with fail
    refine (td w6 g6 i6).mono ?_
    rintro e w7 ⟨rfl, b7⟩
    obtain ⟨g7, i7⟩ := g6.step i6 b7
    have d7 := d6.trans (b7.mono d6.size)
    clear td b7 d6 g6 i6
    go_wp2_with fail
    refine (hdm w7 g7).mono ?_
    rintro e w8 ⟨rfl, b8⟩
    obtain ⟨g8, i8⟩ := g7.step i7 b8
    have d8 := d7.trans (b8.mono d7.size)
    clear  b8 d7 g7 i7
    go_wp2_with fail
    refine (hdn w8 g8).mono ?_
    rintro e w9 ⟨rfl, b9⟩
    obtain ⟨g9, i9⟩ := g8.step i8 b9
    have d9 := d8.trans (b9.mono d8.size)
    clear  b9 d8 g8 i8
    go_wp2_with fail
    refine (te w9 g9 i9).mono ?_
    rintro e w10 ⟨rfl, b10⟩
    obtain ⟨g10, i10⟩ := g9.step i9 b10
    have d10 := d9.trans (b10.mono d9.size)
    clear te b10 d9 g9 i9
    go_wp2_with fail
    refine (pp w10 g10 i10).mono ?_
    rintro e w11 ⟨⟨rp, rfl, hre⟩, b11⟩
    obtain ⟨g11, i11⟩ := g10.step i10 b11
    have d11 := d10.trans (b11.mono d10.size)
    have HR0 := Lib.hid hre.low
    clear pp hre b11 d10 g10 i10
    go_wp2_with fail
    refine (pq w11 g11 i11).mono ?_
    rintro e w12 ⟨⟨rq, rfl, hre⟩, b12⟩
    obtain ⟨g12, i12⟩ := g11.step i11 b12
    have d12 := d11.trans (b12.mono d11.size)
    have HR1 := Lib.hid (HR0.out.still b12)
    have HQ1 := Lib.hid hre.low
    clear pq hre HR0 b12 d11 g11 i11
    have hz1 := fun w h => Size_any 0 rp np w h
    have hz2 := fun w h => Size_any 0 rq nq w h
    go_wp2_with fail
    refine (hz1 w12 HR1.out).mono ?_
    rintro e w13 ⟨rfl, rfl⟩
    go_wp2_with fail
    refine (hz2 w13 HQ1.out).mono ?_
    rintro e w14 ⟨rfl, rfl⟩
    have hmul : ((np.size : Nat) : Int) * (((nn : Nat) : Int) + 1) = ((np.size * (nn + 1) : Nat) : Int) := by simp
    have hmb : np.size * (nn + 1) ≤ 3000000 := by
      have := Nat.mul_le_mul hsp (show nn + 1 ≤ 256 by omega)
      omega
    obtain ⟨PR, hPR⟩ : ∃ PR, np.size * (nn + 1) = PR := ⟨_, rfl⟩
    rw [hPR] at hmul hmb
    have HSUM2 := HSUM.out
    unfold Hid at HSUM2
    rw [hPR] at HSUM2
    have sn := fun (w : World) (r : Nat) h hg h8 => String_any 0 r (.set fun _ => false) w h hg h8 (by rw [told_none]; decide)
    rw [told_none] at sn
    clear HSUM hPR hz2 eC1 nC1 eC2 nC2 eC3 nC3 eC4 nC4 eD2 nD2 eD3 nD3 eD4 nD4 eE2 nE2 eE3 nE3 eE4 nE4 eE5 nE5 eE6 nE6
    by_cases hs : np.size + nq.size < 9999
    · obtain ⟨⟨rfl, rfl⟩, rfl, rfl⟩ := HSUM2.1 hs
      have hs' : ((np.size : Nat) : Int) + ((nq.size : Nat) : Int) < 9999 := by omega
      have HSUM3 := Lib.hid HSUM2.2
      clear HSUM2 hs
      go_wp2_with fail
      refine (hz1 w14 HR1.out).mono ?_
      rintro e w15 ⟨rfl, rfl⟩
      by_cases hr : PR < 9999
      · obtain ⟨rfl, rfl⟩ := HSUM3.out hr
        have hr' : ((PR : Nat) : Int) < 9999 := by omega
        clear HSUM3 hr hz1
        go_wp2_with fail
        refine (hdm w15 g12).mono ?_
        rintro e w16 ⟨rfl, b16⟩
        obtain ⟨g16, i16⟩ := g12.step i12 b16
        have d16 := d12.trans (b16.mono d12.size)
        have HR2 := Lib.hid (HR1.out.still b16)
        have HQ2 := Lib.hid (HQ1.out.still b16)
        clear b16 d12 g12 i12 hdm HR1 HQ1
        go_wp2_with fail
        refine (hdn w16 g16).mono ?_
        rintro e w17 ⟨rfl, b17⟩
        obtain ⟨g17, i17⟩ := g16.step i16 b17
        have d17 := d16.trans (b17.mono d16.size)
        have HR3 := Lib.hid (HR2.out.still b17)
        have HQ3 := Lib.hid (HQ2.out.still b17)
        clear b17 d16 g16 i16 hdn HR2 HQ2
        go_wp2_with fail
        have hany := Any_two (w17.alloc (.cells #[ptrV rp, ptrV rq] 37)) w17.heap.size rp rq 2 np nq
          ⟨(Blk.new w17 #[ptrV rp, ptrV rq] 37).cell 0 rfl, (Blk.new w17 #[ptrV rp, ptrV rq] 37).cell 1 rfl, HR3.out.still ((Below.refl _ _).alloc (Nat.le_refl _) _), HQ3.out.still ((Below.refl _ _).alloc (Nat.le_refl _) _)⟩
        refine hany.mono ?_
        rintro e wa ⟨⟨ra, rfl, hra⟩, ba⟩
        have ba' := below_new ba
        obtain ⟨ga, ia⟩ := g17.step i17 ba'
        have da := d17.trans (ba'.mono d17.size)
        have hwh := Whole_any wa rp np (HR3.out.still ba')
        have HRA := Lib.hid hra
        clear hany ba ba' d17 g17 i17 HR3 HQ3 hra
        go_wp2_with fail
        refine hwh.mono ?_
        rintro e wb ⟨⟨rw_, rfl, hrw⟩, bb⟩
        obtain ⟨gb, ib⟩ := ga.step ia bb
        have db := da.trans (bb.mono da.size)
        have hno := Any_none wb
        have HRB := Lib.hid (HRA.out.still bb)
        have HRW := Lib.hid hrw
        clear hwh bb da ga ia hrw HRA
        go_wp2_with fail
        refine hno.mono ?_
        rintro e wc ⟨⟨rn, rfl, hrn⟩, bc⟩
        obtain ⟨gc, ic⟩ := gb.step ib bc
        have dc := db.trans (bc.mono db.size)
        have hsa := sa wc 0 ra (HRB.out.still bc) gc ic
        have HRV := Lib.hid (HRW.out.still bc)
        have HRN := Lib.hid hrn
        clear hno bc db gb ib hrn HRB HRW sa
        go_wp2_with fail
        refine hsa.mono ?_
        rintro e wd ⟨rfl, bd⟩
        obtain ⟨gd, id_⟩ := gc.step ic bd
        have dd := dc.trans (bd.mono dc.size)
        have hsw := sw wd 0 rw_ (HRV.out.still bd) gd id_
        have HRM := Lib.hid (HRN.out.still bd)
        clear hsa bd dc gc ic HRV HRN sw
        go_wp2_with fail
        refine hsw.mono ?_
        rintro e we ⟨rfl, be⟩
        obtain ⟨ge, ie⟩ := gd.step id_ be
        have de := dd.trans (be.mono dd.size)
        have hsn := sn we rn (HRM.out.still be) ge ie
        clear hsw be dd gd id_ HRM sn
        go_wp2_with fail
        refine hsn.mono ?_
        rintro e wf ⟨rfl, bf⟩
        have df := de.trans (bf.mono de.size)
        clear hsn bf de
        go_wp2_with fail
        go_ret
        exact ⟨rfl, df⟩
      · have hr' : decide (((PR : Nat) : Int) < 9999) = false := by simp; omega
        have hr2 : (((PR : Nat) : Int) < 9999) = False := by simp; omega
        clear HSUM3 hr hdm hdn hz1
        go_wp2_with fail
        have hany := Any_two (w15.alloc (.cells #[ptrV rp, ptrV rq] 37)) w15.heap.size rp rq 2 np nq
          ⟨(Blk.new w15 #[ptrV rp, ptrV rq] 37).cell 0 rfl, (Blk.new w15 #[ptrV rp, ptrV rq] 37).cell 1 rfl, HR1.out.still ((Below.refl _ _).alloc (Nat.le_refl _) _), HQ1.out.still ((Below.refl _ _).alloc (Nat.le_refl _) _)⟩
        refine hany.mono ?_
        rintro e wa ⟨⟨ra, rfl, hra⟩, ba⟩
        have ba' := below_new ba
        obtain ⟨ga, ia⟩ := g12.step i12 ba'
        have da := d12.trans (ba'.mono d12.size)
        have hwh := Whole_any wa rp np (HR1.out.still ba')
        have HRA := Lib.hid hra
        clear hany ba ba' d12 g12 i12 HR1 HQ1 hra
        go_wp2_with fail
        refine hwh.mono ?_
        rintro e wb ⟨⟨rw_, rfl, hrw⟩, bb⟩
        obtain ⟨gb, ib⟩ := ga.step ia bb
        have db := da.trans (bb.mono da.size)
        have hno := Any_none wb
        have HRB := Lib.hid (HRA.out.still bb)
        have HRW := Lib.hid hrw
        clear hwh bb da ga ia hrw HRA
        go_wp2_with fail
        refine hno.mono ?_
        rintro e wc ⟨⟨rn, rfl, hrn⟩, bc⟩
        obtain ⟨gc, ic⟩ := gb.step ib bc
        have dc := db.trans (bc.mono db.size)
        have hsa := sa wc 0 ra (HRB.out.still bc) gc ic
        have HRV := Lib.hid (HRW.out.still bc)
        have HRN := Lib.hid hrn
        clear hno bc db gb ib hrn HRB HRW sa
        go_wp2_with fail
        refine hsa.mono ?_
        rintro e wd ⟨rfl, bd⟩
        obtain ⟨gd, id_⟩ := gc.step ic bd
        have dd := dc.trans (bd.mono dc.size)
        have hsw := sw wd 0 rw_ (HRV.out.still bd) gd id_
        have HRM := Lib.hid (HRN.out.still bd)
        clear hsa bd dc gc ic HRV HRN sw
        go_wp2_with fail
        refine hsw.mono ?_
        rintro e we ⟨rfl, be⟩
        obtain ⟨ge, ie⟩ := gd.step id_ be
        have de := dd.trans (be.mono dd.size)
        have hsn := sn we rn (HRM.out.still be) ge ie
        clear hsw be dd gd id_ HRM sn
        go_wp2_with fail
        refine hsn.mono ?_
        rintro e wf ⟨rfl, bf⟩
        have df := de.trans (bf.mono de.size)
        clear hsn bf de
        go_wp2_with fail
        go_ret
        exact ⟨rfl, df⟩
    · have hs' : ¬ ((np.size : Nat) : Int) + ((nq.size : Nat) : Int) < 9999 := by omega
      have HSUM3 := Lib.hid HSUM2.2
      clear HSUM2 hs
      go_wp2_with fail
      refine (hz1 w14 HR1.out).mono ?_
      rintro e w15 ⟨rfl, rfl⟩
      by_cases hr : PR < 9999
      · obtain ⟨rfl, rfl⟩ := HSUM3.out hr
        have hr' : ((PR : Nat) : Int) < 9999 := by omega
        clear HSUM3 hr hz1
        go_wp2_with fail
        refine (hdm w15 g12).mono ?_
        rintro e w16 ⟨rfl, b16⟩
        obtain ⟨g16, i16⟩ := g12.step i12 b16
        have d16 := d12.trans (b16.mono d12.size)
        have HR2 := Lib.hid (HR1.out.still b16)
        have HQ2 := Lib.hid (HQ1.out.still b16)
        clear b16 d12 g12 i12 hdm HR1 HQ1
        go_wp2_with fail
        refine (hdn w16 g16).mono ?_
        rintro e w17 ⟨rfl, b17⟩
        obtain ⟨g17, i17⟩ := g16.step i16 b17
        have d17 := d16.trans (b17.mono d16.size)
        have HR3 := Lib.hid (HR2.out.still b17)
        have HQ3 := Lib.hid (HQ2.out.still b17)
        clear b17 d16 g16 i16 hdn HR2 HQ2
        go_wp2_with fail
        have hany := Any_two (w17.alloc (.cells #[ptrV rp, ptrV rq] 37)) w17.heap.size rp rq 2 np nq
          ⟨(Blk.new w17 #[ptrV rp, ptrV rq] 37).cell 0 rfl, (Blk.new w17 #[ptrV rp, ptrV rq] 37).cell 1 rfl, HR3.out.still ((Below.refl _ _).alloc (Nat.le_refl _) _), HQ3.out.still ((Below.refl _ _).alloc (Nat.le_refl _) _)⟩
        refine hany.mono ?_
        rintro e wa ⟨⟨ra, rfl, hra⟩, ba⟩
        have ba' := below_new ba
        obtain ⟨ga, ia⟩ := g17.step i17 ba'
        have da := d17.trans (ba'.mono d17.size)
        have hwh := Whole_any wa rp np (HR3.out.still ba')
        have HRA := Lib.hid hra
        clear hany ba ba' d17 g17 i17 HR3 HQ3 hra
        go_wp2_with fail
        refine hwh.mono ?_
        rintro e wb ⟨⟨rw_, rfl, hrw⟩, bb⟩
        obtain ⟨gb, ib⟩ := ga.step ia bb
        have db := da.trans (bb.mono da.size)
        have hno := Any_none wb
        have HRB := Lib.hid (HRA.out.still bb)
        have HRW := Lib.hid hrw
        clear hwh bb da ga ia hrw HRA
        go_wp2_with fail
        refine hno.mono ?_
        rintro e wc ⟨⟨rn, rfl, hrn⟩, bc⟩
        obtain ⟨gc, ic⟩ := gb.step ib bc
        have dc := db.trans (bc.mono db.size)
        have hsa := sa wc 0 ra (HRB.out.still bc) gc ic
        have HRV := Lib.hid (HRW.out.still bc)
        have HRN := Lib.hid hrn
        clear hno bc db gb ib hrn HRB HRW sa
        go_wp2_with fail
        refine hsa.mono ?_
        rintro e wd ⟨rfl, bd⟩
        obtain ⟨gd, id_⟩ := gc.step ic bd
        have dd := dc.trans (bd.mono dc.size)
        have hsw := sw wd 0 rw_ (HRV.out.still bd) gd id_
        have HRM := Lib.hid (HRN.out.still bd)
        clear hsa bd dc gc ic HRV HRN sw
        go_wp2_with fail
        refine hsw.mono ?_
        rintro e we ⟨rfl, be⟩
        obtain ⟨ge, ie⟩ := gd.step id_ be
        have de := dd.trans (be.mono dd.size)
        have hsn := sn we rn (HRM.out.still be) ge ie
        clear hsw be dd gd id_ HRM sn
        go_wp2_with fail
        refine hsn.mono ?_
        rintro e wf ⟨rfl, bf⟩
        have df := de.trans (bf.mono de.size)
        clear hsn bf de
        go_wp2_with fail
        go_ret
        exact ⟨rfl, df⟩
      · have hr' : decide (((PR : Nat) : Int) < 9999) = false := by simp; omega
        have hr2 : (((PR : Nat) : Int) < 9999) = False := by simp; omega
        clear HSUM3 hr hdm hdn hz1
        go_wp2_with fail
        have hany := Any_two (w15.alloc (.cells #[ptrV rp, ptrV rq] 37)) w15.heap.size rp rq 2 np nq
          ⟨(Blk.new w15 #[ptrV rp, ptrV rq] 37).cell 0 rfl, (Blk.new w15 #[ptrV rp, ptrV rq] 37).cell 1 rfl, HR1.out.still ((Below.refl _ _).alloc (Nat.le_refl _) _), HQ1.out.still ((Below.refl _ _).alloc (Nat.le_refl _) _)⟩
        refine hany.mono ?_
        rintro e wa ⟨⟨ra, rfl, hra⟩, ba⟩
        have ba' := below_new ba
        obtain ⟨ga, ia⟩ := g12.step i12 ba'
        have da := d12.trans (ba'.mono d12.size)
        have hwh := Whole_any wa rp np (HR1.out.still ba')
        have HRA := Lib.hid hra
        clear hany ba ba' d12 g12 i12 HR1 HQ1 hra
        go_wp2_with fail
        refine hwh.mono ?_
        rintro e wb ⟨⟨rw_, rfl, hrw⟩, bb⟩
        obtain ⟨gb, ib⟩ := ga.step ia bb
        have db := da.trans (bb.mono da.size)
        have hno := Any_none wb
        have HRB := Lib.hid (HRA.out.still bb)
        have HRW := Lib.hid hrw
        clear hwh bb da ga ia hrw HRA
        go_wp2_with fail
        refine hno.mono ?_
        rintro e wc ⟨⟨rn, rfl, hrn⟩, bc⟩
        obtain ⟨gc, ic⟩ := gb.step ib bc
        have dc := db.trans (bc.mono db.size)
        have hsa := sa wc 0 ra (HRB.out.still bc) gc ic
        have HRV := Lib.hid (HRW.out.still bc)
        have HRN := Lib.hid hrn
        clear hno bc db gb ib hrn HRB HRW sa
        go_wp2_with fail
        refine hsa.mono ?_
        rintro e wd ⟨rfl, bd⟩
        obtain ⟨gd, id_⟩ := gc.step ic bd
        have dd := dc.trans (bd.mono dc.size)
        have hsw := sw wd 0 rw_ (HRV.out.still bd) gd id_
        have HRM := Lib.hid (HRN.out.still bd)
        clear hsa bd dc gc ic HRV HRN sw
        go_wp2_with fail
        refine hsw.mono ?_
        rintro e we ⟨rfl, be⟩
        obtain ⟨ge, ie⟩ := gd.step id_ be
        have de := dd.trans (be.mono dd.size)
        have hsn := sn we rn (HRM.out.still be) ge ie
        clear hsw be dd gd id_ HRM sn
        go_wp2_with fail
        refine hsn.mono ?_
        rintro e wf ⟨rfl, bf⟩
        have df := de.trans (bf.mono de.size)
        clear hsn bf de
        go_wp2_with fail
        go_ret
        exact ⟨rfl, df⟩

end Go.Proofs.YthdkbbkkijdhfaaGreatDoor
