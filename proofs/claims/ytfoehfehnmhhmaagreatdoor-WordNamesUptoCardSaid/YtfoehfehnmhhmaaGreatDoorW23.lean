/-
  The walk of run; run, double, dollar, braced and inner by their contracts. Condition: lengths.
-/
import Derived.Test.YtfoehfehnmhhmaaGreatDoorW22
namespace Go.Proofs.YtfoehfehnmhhmaaGreatDoor
open Go.RowKit Go.Shelf Go.Maps

theorem cutF_len (p v : Wd.Bytes) (back : Bool) : ∀ (l : List Nat) (u : Wd.Bytes), Wd.cutF p v back l = some u → u.length ≤ v.length := by
  intro l
  induction l with
  | nil => intro u h; rw [Wd.cutF] at h; cases h; exact Nat.le_refl _
  | cons n r ih =>
    intro u h
    rw [Wd.cutF.eq_def] at h
    simp only at h
    split at h
    · cases h
    · cases h; split
      · rw [List.length_take]; omega
      · rw [List.length_drop]; omega
    · exact ih u h
theorem get_named {w : World} {B : Nat} {v : Value} {l : List Wd.Bytes} (h : StrsAt w B v l) {n a : Wd.Bytes} (hg : Wd.get l n = some a) : a.length < 1073741824 := by
  have := getV_len h n
  unfold getV at this
  rw [hg] at this
  exact this

theorem braced_any (f : Nat) (hI : InnerC f) : BracedC (f + 1) := by
  intro w b vv av v x y s inq h hg h8 hl hs hd
  rw [Wd.braced.eq_def] at hd
  cases s with
  | nil => cases hd
  | cons c r =>
    simp only at hd
    by_cases hc : c = 35
    · subst hc
      rw [if_pos rfl] at hd
      by_cases hn : 0 < Wd.named r ∧ Wd.named r = r.length
      · rw [if_pos hn] at hd
        rcases hv : x.value r with _ | ⟨u, fl⟩
        · rw [hv] at hd; cases hd
        rw [hv] at hd
        simp only at hd
        by_cases hu : u.length < 256
        · rw [if_pos hu] at hd
          obtain rfl := Option.some.inj hd
          exact braced_hash w b vv av v x r u fl inq h hg h8 hl (by simp at hs; omega) hn.1 hn.2 hv hu
        · rw [if_neg hu] at hd; cases hd
      · rw [if_neg hn] at hd; cases hd
    rw [if_neg hc] at hd
    by_cases hn : Wd.named (c :: r) = 0
    · rw [if_pos hn] at hd; cases hd
    rw [if_neg hn] at hd
    have hn0 : 0 < Wd.named (c :: r) := by omega
    rcases hop : (c :: r).drop (Wd.named (c :: r)) with _ | ⟨o, ww⟩
    · rw [hop] at hd; cases hd
    rw [hop] at hd
    simp only at hd
    have hwl : ww.length < 1073741824 := by have := congrArg List.length hop; simp at this hs; omega
    by_cases ho : o = 37 ∨ o = 35
    · rw [if_pos ho] at hd
      rcases hv : Wd.get x.vars ((c :: r).take (Wd.named (c :: r))) with _ | val
      · rw [hv] at hd; cases hd
      rw [hv] at hd
      simp only at hd
      rcases hin : Wd.inner f x (if Wd.pre [o] ww = true then ww.drop 1 else ww) with _ | l
      · rw [hin] at hd; cases hd
      rw [hin] at hd
      simp only at hd
      rcases hu : Wd.cutF (Wd.pattern l) val (o == 37) (if Wd.pre [o] ww = true then (List.range (val.length + 1)).reverse else List.range (val.length + 1)) with _ | u
      · rw [hu] at hd; cases hd
      rw [hu] at hd
      obtain rfl := Option.some.inj hd
      have hvl := get_named h.vars hv
      have hul := cutF_len _ _ _ _ _ hu
      have hxv : x.value ((c :: r).take (Wd.named (c :: r))) = some (val, true) := by
        rw [Ex_value_named (named_take hn0)]; unfold getV; rw [hv]
      refine braced_cut w b vv av v x (c :: r) ww val u o true inq h hg h8 hl hs hn0 hop ho hxv (by omega) fun W hW hgW => ?_
      rcases ho with rfl | rfl
      · exact cut_pc f hI W b vv av v x val ww l u _ hW hgW h8 hvl hwl rfl hin hu
      · exact cut_sh f hI W b vv av v x val ww l u _ hW hgW h8 hvl hwl rfl hin hu
    rw [if_neg ho] at hd
    by_cases h58 : o = 58
    · subst h58
      rw [if_pos rfl] at hd
      cases ww with
      | nil => cases hd
      | cons k t =>
        simp only at hd
        by_cases hk : k = 45
        · subst hk
          rw [if_pos rfl] at hd
          rcases hv : Wd.get x.vars ((c :: r).take (Wd.named (c :: r))) with _ | val
          · rw [hv] at hd
            simp only at hd
            rcases hin : Wd.inner f x t with _ | l
            · rw [hin] at hd; cases hd
            rw [hin] at hd
            obtain rfl := Option.some.inj hd
            exact braced_minus f hI w b vv av v x (c :: r) t l inq h hg h8 hl hs hn0 hop hv hin
          · rw [hv] at hd; cases hd
        · rw [if_neg hk] at hd; cases hd
    · rw [if_neg h58] at hd; cases hd

end Go.Proofs.YtfoehfehnmhhmaaGreatDoor
