/-
  The walks of value and parameter, where they are told. Conditions: lengths; what the library's variables hold.
-/
import Derived.Test.YtfoehfehnmhhmaaGreatDoorW7
namespace Go.Proofs.YtfoehfehnmhhmaaGreatDoor
open Go.RowKit Go.Shelf Go.Maps

theorem gPow : Tryz.prog.globalNamed "internal/strconv.uint64pow10" = some 1 := by kernel_rfl
theorem var?_same {P : Program} {g : Nat} {W W' : World} {n : String} {cs : Array Value} (h : W'.heap[g]? = W.heap[g]?) (hg : P.globalNamed n = some g) (hv : W.var? P n = some cs) : W'.var? P n = some cs := by
  unfold World.var? at hv ⊢
  simp only [hg, Option.bind_some] at hv ⊢
  rw [h]
  exact hv
theorem Glo.kept {S : Nat → Prop} {w w' : World} (h : Glo w) (hk : Kept S w w') (hS : ∀ k, S k → 8 ≤ k) (h8 : 8 ≤ w.heap.size) : Glo w' := by
  obtain ⟨⟨m, h3⟩, h4⟩ := h
  have hb : ∀ g, g < 8 → w'.heap[g]? = w.heap[g]? := fun g hg => hk.block g (by omega) (fun hs => absurd (hS g hs) (by omega))
  refine ⟨⟨m, ?_⟩, var?_same (hb _ (by decide)) gPow h4⟩
  have := hb 0 (by decide)
  unfold World.cell? at h3 ⊢
  simp only [this]
  exact h3
theorem Glo.below {w w' : World} (h : Glo w) (hk : Below w.heap.size w w') (h8 : 8 ≤ w.heap.size) : Glo w' := h.kept (Kept.of_below (S := fun _ => False) hk) (fun _ h => h.elim) h8
theorem below_drew (q : Nat) (w : World) : Below q w w.drew := ⟨rfl, rfl, rfl, Nat.le_refl _, fun _ _ => rfl⟩
theorem below_drew' {w w' : World} (h : Below w.drew.heap.size w.drew w') : Below w.heap.size w w' := ⟨h.os, h.tape, h.output, h.size, h.block⟩

theorem Ex_value_named {x : Wd.Ex} {p : Wd.Bytes} (h : 0 < Wd.named p) : x.value p = some (getV x.vars p) := by
  unfold Wd.Ex.value getV
  rw [if_pos h]
  cases Wd.get x.vars p <;> rfl

set_option maxRecDepth 100000 in
theorem value_any (w : World) (b : Nat) (vv av v : Value) (x : Wd.Ex) (p s : Wd.Bytes) (f : Bool) (h : ExAt w b vv av x v) (hg : Glo w) (h8 : 8 ≤ w.heap.size) (hp : p.length < 1073741824) (hv : x.value p = some (s, f)) :
    Calls Tryz.prog 73 #[.pointer (some ⟨b, 0, none⟩), .string ⟨p.toArray⟩] w fun e w' => e = .returned (.tuple #[.string ⟨s.toArray⟩, .bool f]) ∧ Below w.heap.size w w' := by
  have hn := named_any p hp w
  by_cases h0 : 0 < Wd.named p
  · rw [Ex_value_named h0] at hv
    have hv2 := Option.some.inj hv
    have hget := get_any w b p x.vars vv h.vars (by have := h.blk.lt; omega) hp
    rw [hv2] at hget
    have c0 : w.cell? ⟨b, 0, none⟩ = some vv := h.blk.cell 0 rfl
    clear hv hv2 h hg
    have h0' : (0 : Int) < (Wd.named p : Nat) := by omega
    generalize Wd.named p = N at *
    go_enter Tryz.func73, Tryz.ntmps73
    go_wp2_with fail
    refine hn.mono ?_
    rintro e w1 ⟨rfl, rfl⟩
    clear hn
    go_wp2_with fail
    refine hget.mono ?_
    rintro e w2 ⟨rfl, hb⟩
    have HB := Lib.hid hb
    clear hb hget
    go_wp2_with fail
    go_ret2
    exact ⟨rfl, HB.out⟩
  · unfold Wd.Ex.value at hv
    rw [if_neg h0] at hv
    split at hv
    · rename_i h1
      obtain ⟨rfl, h2⟩ := h1
      obtain ⟨rfl, rfl⟩ : Wd.digits x.own.length = s ∧ true = f := by cases hv; exact ⟨rfl, rfl⟩
      have ho := own_any w b vv av v x h
      have hd := digits_any x.own.length h2 w.drew (hg.below (below_drew _ _) h8)
      have hn0 : Wd.named [35] = 0 := by omega
      rw [hn0] at hn
      clear hv hg h h0
      generalize x.own = l at *
      go_enter Tryz.func73, Tryz.ntmps73
      go_wp2_with fail
      refine hn.mono ?_
      rintro e w1 ⟨rfl, rfl⟩
      clear hn
      go_wp2_with fail
      refine ho.mono ?_
      rintro e w2 ⟨⟨v', rfl, -, pp, cc, rfl⟩, rfl⟩
      clear ho
      go_wp2_with fail
      refine hd.mono ?_
      rintro e w2 ⟨rfl, hb⟩
      have HB := Lib.hid hb
      clear hb hd
      go_wp2_with fail
      go_ret2
      exact ⟨rfl, below_drew' HB.out⟩
    · cases hv

theorem parameter_any (w : World) (s : Wd.Bytes) (hs : s.length < 1073741824) (hn : 0 < Wd.named s) :
    Calls Tryz.prog 72 #[.string ⟨s.toArray⟩] w fun e w' => e = .returned (.int .i64 (Wd.named s : Nat)) ∧ w' = w := by
  have h := named_any s hs
  have hn' : (0 : Int) < (Wd.named s : Nat) := by omega
  generalize Wd.named s = N at *
  go_enter Tryz.func72, Tryz.ntmps72
  go_wp2_with fail
  refine (h _).mono ?_
  rintro e w1 ⟨rfl, rfl⟩
  go_wp2_with fail
  refine (h _).mono ?_
  rintro e w1 ⟨rfl, rfl⟩
  go_wp2_with fail
  go_ret
  exact ⟨rfl, rfl⟩

end Go.Proofs.YtfoehfehnmhhmaaGreatDoor
