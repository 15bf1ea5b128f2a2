/-
  The walk of opts. Conditions: the letters, the separator and the keys are no longer than is told; the keys lie in memory as they are told.
-/
import Derived.Test.YtnhopkjichgckaaDoorW12
namespace Go.Proofs.YtnhopkjichgckaaDoor
open Go.RowKit Go.Shelf

/-- Options as values. -/
def optVals (l : List Ord.Opt) : List Value := l.flatMap fun x => [.int .u8 x.1.toNat, .string ⟨x.2.toArray⟩]
theorem optVals_len (l : List Ord.Opt) : (optVals l).length = l.length * 2 := by
  induction l with
  | nil => rfl
  | cons x r ih => simp only [optVals, List.flatMap_cons, List.length_append, List.length_cons, List.length_nil] at ih ⊢; omega
theorem optVals_at : ∀ (l : List Ord.Opt) (i : Nat), i < l.length → (optVals l)[i * 2]? = some (.int .u8 (l.getD i (0, [])).1.toNat) ∧ (optVals l)[i * 2 + 1]? = some (.string ⟨(l.getD i (0, [])).2.toArray⟩)
  | [], i, h => absurd h (by simp)
  | x :: r, 0, _ => ⟨rfl, rfl⟩
  | x :: r, i + 1, h => by
    have := optVals_at r i (by simpa using h)
    have e : optVals (x :: r) = .int .u8 x.1.toNat :: .string ⟨x.2.toArray⟩ :: optVals r := rfl
    rw [e, show (i + 1) * 2 = i * 2 + 1 + 1 by omega]
    exact this
theorem optVals_app (a b : List Ord.Opt) : optVals (a ++ b) = optVals a ++ optVals b := by simp [optVals]

theorem owns_opts {w : World} {base : Nat} {p : Option Addr} {n c : Nat} {l : List Ord.Opt} (h : w.ownsRow base 43 2 (.slice p n c) l.length (optVals l)) : OptsIn w p l := by
  intro hl
  rcases h.2 with ⟨_, h0⟩ | ⟨g, cap, cur, hv, _, hg, hn, _, hsz, htk⟩
  · omega
  · simp at hv
    obtain ⟨rfl, rfl, rfl⟩ := hv
    refine ⟨g, 0, rfl, fun i hi => ?_⟩
    obtain ⟨h1, h2⟩ := optVals_at l i hi
    rw [Nat.zero_add]
    exact ⟨by rw [World.ownsRow.cellAt h (i * 2) (by omega)]; exact h1, by rw [World.ownsRow.cellAt h (i * 2 + 1) (by omega)]; exact h2⟩

/-- Strings in memory. -/
def StrsIn (w : World) (p : Option Addr) (K : List Ord.Bytes) : Prop :=
  0 < K.length → ∃ b o, p = some ⟨b, o, none⟩ ∧ ∀ i, i < K.length → w.cell? ⟨b, o + i, none⟩ = some (.string ⟨(K.getD i []).toArray⟩)

def optsOf (F S : Ord.Bytes) (K : List Ord.Bytes) : List Ord.Opt := F.map (fun c => (c, [])) ++ (if S = [] then [] else [(116, S)]) ++ K.map (fun k => (107, k))

theorem info_opt : (Tryd.prog.info? 43).map (fun i => (i.zero, i.size, i.bytes)) = some (some (.agg #[.int .u8 0, .string ⟨#[]⟩]), 2, 24) := by kernel_rfl

theorem str_eq_empty (S : Ord.Bytes) : ((⟨S.toArray⟩ : ByteArray) = ⟨#[]⟩) ↔ S = [] := by
  constructor
  · intro h
    have := congrArg (fun b : ByteArray => b.data.toList) h
    simpa using this
  · rintro rfl; rfl

theorem bget (F : Ord.Bytes) (k : Nat) (h : k < (⟨F.toArray⟩ : ByteArray).size) : (⟨F.toArray⟩ : ByteArray)[k] = F.getD k 0 := by
  have hk : k < F.length := by simpa [ByteArray.size] using h
  show F.toArray[k] = _
  simp [List.getD_eq_getElem?_getD, List.getElem?_eq_getElem hk]

/-- The cells of a new block. -/
theorem cells_new (w : World) (cs : Array Value) (t : TypeId) : ∀ j u, cs.toList[j]? = some u → (w.alloc (.cells cs t)).cell? ((⟨w.heap.size, 0, none⟩ : Addr).add j) = some u := by
  intro j u h
  rw [add_plain', Nat.zero_add]
  exact Blk.cell (Blk.new w cs t) j (by simpa using h)

theorem letters_push {w wr w5 : World} {base : Nat} {v v' : Value} {F : Ord.Bytes} {k : Nat} {x : Int} (hk : k < F.length) (hx : x = (F.getD k 0).toNat)
    (h2 : wr.ownsRow base 43 2 v k (optVals ((F.take k).map fun c => (c, [])))) (hb : Below base w wr) (hB : base ≤ wr.heap.size) {o : Obj}
    (hown : w5.ownsRow base 43 2 v' (k + 1) (optVals ((F.take k).map fun c => (c, [])) ++ [.int .u8 x, .string ⟨#[]⟩])) (hg : (wr.alloc o).grownBy w5 v.ownBlock) :
    w5.ownsRow base 43 2 v' (k + 1) (optVals ((F.take (k + 1)).map fun c => (c, []))) ∧ Below base w w5 := by
  refine ⟨?_, (hb.alloc hB o).grown hg (by simp; omega) fun j hj => (h2.lt j hj).1⟩
  rw [List.take_succ_eq_append_getElem hk, List.map_append, optVals_app]
  have e : F[k] = F.getD k 0 := by simp [List.getD_eq_getElem?_getD, List.getElem?_eq_getElem hk]
  rw [e, ← List.take_append_drop 0 (optVals _)]
  simpa [optVals, hx] using hown

theorem opt_push {w wr w5 : World} {base : Nat} {v v' : Value} {l : List Ord.Opt} {x : Ord.Opt}
    (h2 : wr.ownsRow base 43 2 v l.length (optVals l)) (hb : Below base w wr) (hB : base ≤ wr.heap.size) {o : Obj}
    (hown : w5.ownsRow base 43 2 v' (l.length + 1) (optVals l ++ [.int .u8 x.1.toNat, .string ⟨x.2.toArray⟩])) (hg : (wr.alloc o).grownBy w5 v.ownBlock) :
    w5.ownsRow base 43 2 v' (l ++ [x]).length (optVals (l ++ [x])) ∧ Below base w w5 := by
  refine ⟨?_, (hb.alloc hB o).grown hg (by simp; omega) fun j hj => (h2.lt j hj).1⟩
  rw [optVals_app, List.length_append]
  exact hown

set_option maxHeartbeats 1600000 in
set_option maxRecDepth 100000 in
theorem opts_any (F S : Ord.Bytes) (K : List Ord.Bytes) (p : Option Addr) (cap : Nat) (w : World) (hk : StrsIn w p K) (hF : F.length ≤ 1000000) (hK : K.length ≤ 1000000) :
    Calls Tryd.prog 12 #[.string ⟨F.toArray⟩, .string ⟨S.toArray⟩, .slice p K.length cap] w fun e w' => (∃ v, e = .returned v ∧ w'.ownsRow w.heap.size 43 2 v (optsOf F S K).length (optVals (optsOf F S K))) ∧ Below w.heap.size w w' := by
  go_enter Tryd.func12, Tryd.ntmps12
  go_wp2_with fail
  obtain ⟨i0, hi, hz0, hz1, hz2⟩ := info_parts info_opt
  go_loopw [7, 8] (fun v i wr => ∃ k : Nat, k ≤ F.length ∧ i = .int .i64 k ∧ wr.ownsRow w.heap.size 43 2 v k (optVals ((F.take k).map fun c => (c, []))) ∧ Below w.heap.size w wr) (fun _ i _ => F.length - (intOf i).toNat)
  case atStart => exact ⟨0, Nat.zero_le _, rfl, World.ownsRow_nil _ _ _ _, Below.refl _ _⟩
  case round =>
    obtain ⟨k, hkl, rfl, hown, hbw⟩ := hrel
    have hzw := hbw.size
    by_cases hlt : k < F.length
    · have hbg := bget F k (by simpa [ByteArray.size] using hlt)
      obtain ⟨ch, hch⟩ : ∃ ch, F.getD k 0 = ch := ⟨_, rfl⟩
      rw [hch] at hbg
      have HCH := Lib.hid hch; clear hch
      go_wp2_with (at_builtin; refine wpList_append_own _ rfl _ _ 22 rfl w.heap.size 43 i0 (.agg #[.int .u8 0, .string ⟨#[]⟩]) 2 24 Tryd.underlying22 hi hz0 hz1 hz2 rfl (by decide) _ _ _ rfl (hown.alloc _) ⟨wr.heap.size, 0, none⟩ 1 1 [.int .u8 ch.toNat, .string ⟨#[]⟩] rfl rfl (cells_new _ #[_, _] _) (by simp [Value.oneCell']) (by unfold maxLen; omega) (by omega) (by simp; omega) ?_; intro v' w5 hown' hgrow _)
      obtain ⟨hown5, hbw5⟩ := letters_push hlt (by rw [HCH.out]) hown hbw hzw hown' hgrow
      go_roundw
      case rel => exact ⟨k + 1, by omega, by go_num, hown5, hbw5⟩
      case measure => simp [intOf]; omega
    · obtain rfl : k = F.length := by omega
      rw [List.take_of_length_le (Nat.le_refl _)] at hown
      go_upto_if 24 with fail
      go_cut [7] (fun s7 wx => wx.ownsRow w.heap.size 43 2 s7 (optsOf F S []).length (optVals (optsOf F S [])) ∧ Below w.heap.size w wx)
      case first =>
        by_cases hS : S = []
        · subst hS
          go_wp2_with fail
          go_meet
          exact ⟨by simpa [optsOf] using hown, hbw⟩
        · have hS' : S.isEmpty = false := by cases S; exact absurd rfl hS; rfl
          have ho1 : optsOf F S [] = F.map (fun c => (c, [])) ++ [(116, S)] := by unfold optsOf; rw [if_neg hS]; simp
          have HO1 := Lib.hid ho1; clear ho1 hS
          have hown0 : wr.ownsRow w.heap.size 43 2 u7 (F.map fun c => (c, ([] : Ord.Bytes))).length (optVals (F.map fun c => (c, []))) := by rw [List.length_map]; exact hown
          have hlen : (F.map fun c => (c, ([] : Ord.Bytes))).length ≤ 1000000 := by rw [List.length_map]; exact hF
          clear hown
          have hown := hown0
          clear hown0
          generalize F.map (fun c => (c, ([] : Ord.Bytes))) = l1 at *
          go_wp2_with (at_builtin; refine wpList_append_own _ rfl _ _ 22 rfl w.heap.size 43 i0 (.agg #[.int .u8 0, .string ⟨#[]⟩]) 2 24 Tryd.underlying22 hi hz0 hz1 hz2 rfl (by decide) _ _ _ rfl (hown.alloc _) ⟨wr.heap.size, 0, none⟩ 1 1 [.int .u8 116, .string ⟨S.toArray⟩] rfl rfl (cells_new _ #[_, _] _) (by simp [Value.oneCell']) (by unfold maxLen; omega) (by omega) (by simp; omega) ?_; intro v' w5 hown' hgrow _)
          · obtain ⟨hown5, hbw5⟩ := opt_push (x := (116, S)) hown hbw hzw hown' hgrow
            go_meet
            rw [HO1.out]
            exact ⟨hown5, hbw5⟩
          · rename_i h0
            rw [hS'] at h0
            exact absurd h0 (by decide)
      case rest =>
        clear hown hbw hzw
        obtain ⟨hown, hbw⟩ := hcut
        have hol : (optsOf F S []).length ≤ 1000001 := by unfold optsOf; split <;> simp <;> omega
        have hot : optsOf F S K = optsOf F S [] ++ K.map (fun k => ((107 : UInt8), k)) := by simp [optsOf]
        have HOT := Lib.hid hot; clear hot
        generalize optsOf F S [] = l0 at *
        go_wp2_with fail
        go_loopw [7, 9] (fun v i wx => ∃ k : Nat, k ≤ K.length ∧ i = .int .i64 k ∧ wx.ownsRow w.heap.size 43 2 v (l0 ++ (K.take k).map (fun k => ((107 : UInt8), k))).length (optVals (l0 ++ (K.take k).map (fun k => ((107 : UInt8), k)))) ∧ Below w.heap.size w wx) (fun _ i _ => K.length - (intOf i).toNat)
        case atStart => exact ⟨0, Nat.zero_le _, rfl, by simpa using hown, hbw⟩
        case round =>
          clear hown hbw
          obtain ⟨k, hkl, rfl, hown, hbw⟩ := hrel
          have hzw := hbw.size
          by_cases hlt : k < K.length
          · obtain ⟨bb, bo, rfl, hcell⟩ := hk (by omega)
            have hbb : bb < w.heap.size := World.block_lt_of_cell? _ _ (hcell 0 (by omega))
            have hck := hcell k hlt
            rw [← hbw.cell (p := ⟨bb, bo + k, none⟩) hbb] at hck
            have HCELL := Lib.hid hcell; clear hcell
            have hst : l0 ++ (K.take (k + 1)).map (fun k => ((107 : UInt8), k)) = (l0 ++ (K.take k).map (fun k => ((107 : UInt8), k))) ++ [(107, K.getD k [])] := by
              rw [List.take_succ_eq_append_getElem hlt, List.map_append, ← List.append_assoc]
              simp [List.getD_eq_getElem?_getD, List.getElem?_eq_getElem hlt]
            have HST := Lib.hid hst; clear hst
            have hlen : (l0 ++ (K.take k).map (fun k => ((107 : UInt8), k))).length ≤ 2000001 := by simp; omega
            generalize l0 ++ (K.take k).map (fun k => ((107 : UInt8), k)) = l1 at *
            generalize K.getD k [] = kk at *
            go_wp2_with (at_builtin; refine wpList_append_own _ rfl _ _ 22 rfl w.heap.size 43 i0 (.agg #[.int .u8 0, .string ⟨#[]⟩]) 2 24 Tryd.underlying22 hi hz0 hz1 hz2 rfl (by decide) _ _ _ rfl (hown.alloc _) ⟨wr.heap.size, 0, none⟩ 1 1 [.int .u8 107, .string ⟨kk.toArray⟩] rfl rfl (cells_new _ #[_, _] _) (by simp [Value.oneCell']) (by unfold maxLen; omega) (by omega) (by simp; omega) ?_; intro v' w5 hown' hgrow _)
            obtain ⟨hown5, hbw5⟩ := opt_push (x := (107, kk)) hown hbw hzw hown' hgrow
            go_roundw
            case rel => exact ⟨k + 1, by omega, by go_num, by rw [HST.out]; exact hown5, hbw5⟩
            case measure => simp [intOf]; omega
          · obtain rfl : k = K.length := by omega
            rw [List.take_of_length_le (Nat.le_refl _)] at hown
            go_wp2_with fail
            go_ret
            rw [HOT.out]
            exact ⟨⟨_, rfl, hown⟩, hbw⟩

end Go.Proofs.YtnhopkjichgckaaDoor
