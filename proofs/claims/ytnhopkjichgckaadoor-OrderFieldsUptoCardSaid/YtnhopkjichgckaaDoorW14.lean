/-
  The walk of compares. Conditions: the options lie in memory as they are told; the two of strconv's errors have their values.
-/
import Derived.Test.YtnhopkjichgckaaDoorFit
import Derived.Test.YtnhopkjichgckaaDoorW13
namespace Go.Proofs.YtnhopkjichgckaaDoor
open Go.RowKit Go.Shelf

/-- A string turned to bytes. -/
theorem conv_facts (l : Ord.Bytes) (w : World) : ∃ c w1, (convert 9 23 (.string ⟨l.toArray⟩)).run Tryd.prog w = .ok (.slice (some ⟨w.heap.size, 0, none⟩) l.length c) w1 ∧ l.length ≤ c ∧ Below w.heap.size w w1 ∧ Bs w1 (some ⟨w.heap.size, 0, none⟩) l := by
  have hsz : (⟨l.toArray⟩ : ByteArray).size = l.length := by simp [ByteArray.size]
  have h := Lib.run_convert_string_bytes (P := Tryd.prog) w 9 23 5 ⟨l.toArray⟩ Tryd.underlying9 Tryd.underlying23 Tryd.underlying5
  rw [hsz] at h
  refine ⟨_, _, h, ?_, Lib.bytesWorld_below w 5 ⟨l.toArray⟩, fun hl => ⟨_, 0, rfl, fun i hi => ?_⟩⟩
  · exact grownCap_ge _ _ _ _
  · rw [Nat.zero_add]
    exact Lib.bytesWorld_cell w 5 ⟨l.toArray⟩ i (by rw [hsz]; exact hi)

/-- What compares answers. -/
def comparesVal (l : List Ord.Opt) (a b : Ord.Bytes) : Int := match Ord.readAll l with
  | none => 2
  | some o => Ord.sign (Ord.compare o a b)

set_option maxHeartbeats 1600000 in
set_option maxRecDepth 100000 in
theorem compares_any (l : List Ord.Opt) (p : Option Addr) (cap : Nat) (a b : Ord.Bytes) (w : World) (ho : OptsIn w p l) (hg : Glo w) (hB : 8 ≤ w.heap.size) (hl : l.length ≤ 5864062014805) (ha : ∀ i, (l.getD i (0, [])).2.length ≤ 140737488351232)
    (hla : a.length ≤ 140737488351232) (hlb : b.length ≤ 140737488351232) :
    Calls Tryd.prog 14 #[.slice p l.length cap, .string ⟨a.toArray⟩, .string ⟨b.toArray⟩] w fun e w' => e = .returned (.int .i64 (comparesVal l a b)) ∧ Below w.heap.size w w' := by
  have hread := Read_any l p cap hl ha w ho hg hB
  have hsign := sign_any
  obtain ⟨v, hv⟩ : ∃ v, v = comparesVal l a b := ⟨_, rfl⟩
  rw [← hv]
  unfold comparesVal at hv
  unfold ReadPost at hread
  cases hr : Ord.readAll l with
  | none =>
    rw [hr] at hread hv
    simp only at hread hv
    go_enter Tryd.func14, Tryd.ntmps14
    go_wp2_with fail
    refine hread.mono ?_
    rintro e w1 ⟨rfl, hb1⟩
    go_wp2_with fail
    go_ret
    exact ⟨ret_int hv.symm, hb1⟩
  | some o =>
    rw [hr] at hread hv
    simp only at hread hv
    obtain ⟨hf1, hf2, hf3⟩ := readAll_fit hr
    clear hr
    go_enter Tryd.func14, Tryd.ntmps14
    go_wp2_with fail
    refine hread.mono ?_
    rintro e w1 ⟨⟨ob, rfl, hob, hoa⟩, hb1⟩
    obtain ⟨c1, w2, hc1, hl1, hb2, hs1⟩ := conv_facts a w1
    obtain ⟨c2, w3, hc2, hl2, hb3, hs2⟩ := conv_facts b w2
    have hs1' := hs1.below hb3 (Nat.le_refl _)
    have hoa' := (hoa.keep hb2).keep hb3
    have hcmp := Compare_any ob o hf1 hf2 hf3 a b _ _ c1 c2 w3 hoa' hs1' hs2 (by simp) (by simp) hl1 hl2 hla hlb
    have hbw : Below w.heap.size w w3 := (hb1.trans (hb2.mono hb1.size)).trans (hb3.mono (Nat.le_trans hb1.size hb2.size))
    have HB := Lib.hid hbw
    clear hbw hs1 hs2 hs1' hoa hoa' hb1 hb2 hb3 hread
    go_wp2_with fail
    refine hcmp.mono ?_
    rintro e w4 ⟨rfl, hb4⟩
    have hb5 := HB.out.trans (hb4.mono HB.out.size)
    clear hb4 hcmp hc1 hc2
    go_wp2_with fail
    refine (hsign _ _).mono ?_
    rintro e w5 ⟨rfl, rfl⟩
    go_wp2_with fail
    go_ret
    exact ⟨ret_int hv.symm, hb5⟩

/-- opts, for what Read wants. -/
theorem opts_is (F S : Ord.Bytes) (K : List Ord.Bytes) (l : List Ord.Opt) (hl : optsOf F S K = l) (p : Option Addr) (cap : Nat) (w : World) (hk : StrsIn w p K) (hF : F.length ≤ 1000000) (hK : K.length ≤ 1000000) :
    Calls Tryd.prog 12 #[.string ⟨F.toArray⟩, .string ⟨S.toArray⟩, .slice p K.length cap] w fun e w' => (∃ q c, e = .returned (.slice q l.length c) ∧ OptsIn w' q l) ∧ Below w.heap.size w w' := by
  refine (opts_any F S K p cap w hk hF hK).mono ?_
  rintro e w' ⟨⟨v, rfl, hown⟩, hb⟩
  rw [hl] at hown
  obtain ⟨q, c, rfl, _, _⟩ := owns_slice' hown
  exact ⟨⟨q, c, rfl, owns_opts hown⟩, hb⟩

theorem StrsIn.nil (w : World) (p : Option Addr) : StrsIn w p [] := fun h => absurd h (Nat.lt_irrefl 0)
theorem OptsIn.nil (w : World) (p : Option Addr) : OptsIn w p [] := fun h => absurd h (Nat.lt_irrefl 0)
theorem strs_one (w : World) (s : Ord.Bytes) (t : TypeId) : StrsIn (w.alloc (.cells #[.string ⟨s.toArray⟩] t)) (some ⟨w.heap.size, 0, none⟩) [s] := by
  intro _
  refine ⟨_, 0, rfl, fun i hi => ?_⟩
  obtain rfl : i = 0 := by simp at hi; omega
  exact Blk.cell (Blk.new w #[.string ⟨s.toArray⟩] t) 0 rfl
theorem bs_one (w : World) (c : UInt8) (t : TypeId) : Bs (w.alloc (.cells #[.int .u8 c.toNat] t)) (some ⟨w.heap.size, 0, none⟩) [c] := by
  intro _
  refine ⟨_, 0, rfl, fun i hi => ?_⟩
  obtain rfl : i = 0 := by simp at hi; omega
  exact Blk.cell (Blk.new w #[.int .u8 c.toNat] t) 0 rfl

end Go.Proofs.YtnhopkjichgckaaDoor
