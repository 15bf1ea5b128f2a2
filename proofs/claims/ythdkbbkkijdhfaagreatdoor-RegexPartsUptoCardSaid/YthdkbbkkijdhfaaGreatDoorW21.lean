/-
  The walk of ranges. Condition: the node lies in memory; the library's variables hold what they hold.
-/
import Derived.Test.YthdkbbkkijdhfaaGreatDoorW19
import Derived.Test.YthdkbbkkijdhfaaGreatDoorW20
import Derived.Test.YthdkbbkkijdhfaaGreatDoorJoin
namespace Go.Proofs.YthdkbbkkijdhfaaGreatDoor
open Go.RowKit Go.Shelf Go.Maps

theorem runEnd_ge (h : Rx.Has) : ∀ f k, k ≤ Rx.runEnd h f k := by
  intro f
  induction f with
  | zero => intro k; exact Nat.le_refl _
  | succ f ih =>
    intro k
    unfold Rx.runEnd
    split
    · have := ih (k + 1); omega
    · exact Nat.le_refl _
theorem runEnd_le (h : Rx.Has) : ∀ f k, k ≤ 255 → Rx.runEnd h f k ≤ 255 := by
  intro f
  induction f with
  | zero => intro k hk; exact hk
  | succ f ih =>
    intro k hk
    unfold Rx.runEnd
    split
    · exact ih (k + 1) (by omega)
    · exact hk

theorem two_len : ∀ c : Nat, c < 256 → (Rx.two c).length = 2 := by decide +kernel

/-- How a run is told. -/
def runText (c e : Nat) : Rx.Bytes := if c < e then Rx.two c ++ 45 :: Rx.two e else Rx.two c
theorem runText_len (c e : Nat) (hc : c < 256) (he : e < 256) : (runText c e).length ≤ 5 := by
  unfold runText
  have h1 := two_len c hc
  have h2 := two_len e he
  split <;> simp <;> omega
theorem rangesF_in (h : Rx.Has) (f c : Nat) (hc : c < 256) (hh : h (UInt8.ofNat c) = true) : Rx.rangesF h (f + 1) c = runText c (Rx.runEnd h 256 c) :: Rx.rangesF h f (Rx.runEnd h 256 c + 1) := by
  rw [Rx.rangesF, if_neg (by omega), if_pos hh]
  rfl
theorem rangesF_out (h : Rx.Has) (f c : Nat) (hc : c < 256) (hh : h (UInt8.ofNat c) = false) : Rx.rangesF h (f + 1) c = Rx.rangesF h f (c + 1) := by
  rw [Rx.rangesF, if_neg (by omega), if_neg (by rw [hh]; decide)]
theorem rangesF_end (h : Rx.Has) (f : Nat) : Rx.rangesF h f 256 = [] := by
  cases f with
  | zero => rfl
  | succ f => rw [Rx.rangesF, if_pos (Nat.le_refl _)]

/-- All runs' texts are short. -/
theorem rangesF_short (h : Rx.Has) : ∀ f c, ∀ x ∈ Rx.rangesF h f c, x.length ≤ 5 := by
  intro f
  induction f with
  | zero => intro c x hx; simp [Rx.rangesF] at hx
  | succ f ih =>
    intro c x hx
    unfold Rx.rangesF at hx
    split at hx
    · simp at hx
    · rename_i hc
      split at hx
      · rcases List.mem_cons.1 hx with rfl | hx
        · exact runText_len c _ (by omega) (by have := runEnd_le h 256 c (by omega); omega)
        · exact ih _ _ hx
      · exact ih _ _ hx
theorem rangesF_count (h : Rx.Has) : ∀ f c, (Rx.rangesF h f c).length ≤ f := by
  intro f
  induction f with
  | zero => intro c; simp [Rx.rangesF]
  | succ f ih =>
    intro c
    unfold Rx.rangesF
    split
    · simp
    · split
      · have := ih (Rx.runEnd h 256 c + 1); simp; omega
      · have := ih (c + 1); omega
theorem sepBy_len (t : Rx.Bytes) (m : Nat) : ∀ l : List Rx.Bytes, (∀ x ∈ l, x.length ≤ m) → (Rx.sepBy t l).length ≤ l.length * (m + t.length)
  | [], _ => by simp [Rx.sepBy]
  | [x], h => by have := h x (by simp); simp only [Rx.sepBy, List.length_cons, List.length_nil]; omega
  | x :: y :: r, h => by
    have ih := sepBy_len t m (y :: r) (fun z hz => h z (by simp [hz]))
    have h1 := h x (by simp)
    simp only [Rx.sepBy, List.length_append, List.length_cons] at ih ⊢
    rw [Nat.add_mul (r.length + 1) 1]
    omega

theorem StrsAt.kept {S : Nat → Prop} {w w' : World} {B : Nat} {v : Value} {l : List Rx.Bytes} (h : StrsAt w B v l) (hk : Kept S w w') (hS : ∀ k, B ≤ k → ¬ S k) : StrsAt w' B v l := by
  refine ⟨h.none_, ?_⟩
  obtain ⟨h1, h2 | ⟨g, cap, cur, e, hg, hb, r⟩⟩ := h.own
  · exact ⟨h1, .inl h2⟩
  · exact ⟨h1, .inr ⟨g, cap, cur, e, hg, (hk.block g (lt_of_block hb) (hS g hg)).trans hb, r⟩⟩

/-- What the loop of ranges keeps. -/
structure RgIn (h : Rx.Has) (w wr : World) (p c : Nat) (cs : Array Value) (v : Value) (done : List Rx.Bytes) (f : Nat) : Prop where
  strs : StrsAt wr w.heap.size v done
  nd : Blk wr p cs 87
  glo : Glo wr
  bel : Below w.heap.size w wr
  le : c ≤ 256
  len : done.length ≤ c
  fuel : 256 - c < f
  eq : Hid (Rx.rangesF h 257 0 = done ++ Rx.rangesF h f c)

set_option maxHeartbeats 3200000 in
set_option maxRecDepth 100000 in
theorem ranges_any (p : Nat) (kind mn mx : Int) (kids : Value) (h : Rx.Has) (w : World) (hb : Blk w p (ndCells kind h mn mx kids) 87) (hg : Glo w) (h8 : 8 ≤ w.heap.size) :
    Calls Tryz.prog 56 #[.pointer (some ⟨p, 0, none⟩)] w fun e w' => e = .returned (.string ⟨(Rx.ranges h).toArray⟩) ∧ Below w.heap.size w w' := by
  have I : RgIn h w w p 0 (ndCells kind h mn mx kids) (.slice none 0 0) [] 257 := ⟨StrsAt.nil _ _, hb, hg, Below.refl _ _, Nat.zero_le _, Nat.zero_le _, by omega, rfl⟩
  obtain ⟨i0, hi, hz0, hz1, hz2⟩ := info_parts info_str
  have hplt := hb.lt
  have HB0 := Lib.hid hb
  have HG0 := Lib.hid hg
  have HTXT := Lib.hid (rangesF_short h 257 0)
  have HCNT := rangesF_count h 257 0
  clear hb hg
  go_enter Tryz.func56, Tryz.ntmps56
  go_wp2_with fail
  go_loopw [3, 4, 5, 6] (fun x3 x4 _x5 _x6 wr => ∃ (c : Nat) (done : List Rx.Bytes) (f : Nat), x4 = .int .i64 c ∧ RgIn h w wr p c (ndCells kind h mn mx kids) x3 done f) (fun _ x4 _ _ _ => 256 - (intOf x4).toNat)
  case atStart => exact ⟨0, [], 257, rfl, I⟩
  case round =>
    clear I
    obtain ⟨c, done, f, rfl, I⟩ := hrel
    have hle := I.le
    obtain ⟨f, rfl⟩ : ∃ g, f = g + 1 := ⟨f - 1, by have := I.fuel; omega⟩
    by_cases hc : c < 256
    · have c0 := I.nd.cell (1 + c) (nd_has _ _ _ _ _ c hc)
      have HI := Lib.hid I
      cases hh : h (UInt8.ofNat c) with
      | false =>
        rw [hh] at c0
        have HE := Lib.hid (I.eq.out.trans (by rw [rangesF_out h f c hc hh]))
        clear I hh
        go_wp2_with fail
        refine ⟨⟨c + 1, done, f, by go_num, HI.out.strs, HI.out.nd, HI.out.glo, HI.out.bel, by omega, by have := HI.out.len; omega, by have := HI.out.fuel; omega, HE⟩, ?_⟩
        show 256 - ((c : Int) + 1).toNat < 256 - (c : Int).toNat
        omega
      | true =>
        rw [hh] at c0
        have HE := Lib.hid (I.eq.out.trans (by rw [rangesF_in h f c hc hh]))
        have hend := runEnd_le h 256 c (by omega)
        have hge := runEnd_ge h 256 c
        have hnd := I.nd
        clear I hh
        generalize hEE : Rx.runEnd h 256 c = E at HE hend hge
        have HR := Lib.hid hEE
        clear hEE
        have hcd : decide ((c : Int) < 256) = true := by simp; omega
        go_wp2_with fail
        try simp only [hcd]
        go_loopw [5] (fun x5 wx => wx = wr ∧ ∃ k g : Nat, x5 = .int .i64 k ∧ c ≤ k ∧ k ≤ 255 ∧ 255 - k < g ∧ Hid (Rx.runEnd h g k = E)) (fun x5 _ => 256 - (intOf x5).toNat)
        case atStart => exact ⟨rfl, c, 256, rfl, Nat.le_refl _, by omega, by omega, HR⟩
        case round =>
          obtain ⟨rfl, k, g, rfl, hck, hk255, hg, HK⟩ := hrel
          obtain ⟨g, rfl⟩ : ∃ q, g = q + 1 := ⟨g - 1, by omega⟩
          go_upto_region 7 with fail
          go_cut [19, 20, 21, 22, 23, 24, 25, 26, 27, 28, 29] (fun _ _ _ _ _ _ _ _ _ _ s29 wx => s29 = .bool (decide (k < 255) && h (UInt8.ofNat (k + 1))) ∧ wx = wr)
          case first =>
            by_cases hlt : k < 255
            · have c1 := hnd.cell (1 + (k + 1)) (nd_has _ _ _ _ _ (k + 1) (by omega))
              have H1 : Hid (decide (k < 255) = true) := by show _ = _; simpa using hlt
              have hlt2 : (k : Int) < 255 := by omega
              generalize h (UInt8.ofNat (k + 1)) = y at *
              go_wp2_with fail
              go_meet
              exact ⟨by rw [H1.out, Bool.true_and], rfl⟩
            · have H1 : Hid (decide (k < 255) = false) := by show _ = _; simpa using hlt
              have hlt2 : ¬ (k : Int) < 255 := by omega
              go_wp2_with fail
              go_meet
              exact ⟨by rw [H1.out, Bool.false_and], rfl⟩
          case rest =>
            obtain ⟨rfl, rfl⟩ := hcut
            cases hon : decide (k < 255) && h (UInt8.ofNat (k + 1)) with
            | true =>
              have hcon : k < 255 ∧ h (UInt8.ofNat (k + 1)) = true := by simpa using hon
              have HK2 : Hid (Rx.runEnd h g (k + 1) = E) := by
                have := HK.out
                rw [Rx.runEnd, if_pos hcon] at this
                exact this
              have hk1 := hcon.1
              clear hon hcon HK
              go_wp2_with fail
              refine ⟨⟨trivial, k + 1, g, by go_num, by omega, by omega, by omega, HK2⟩, ?_⟩
              show 256 - ((k : Int) + 1).toNat < 256 - (k : Int).toNat
              omega
            | false =>
              have hEk : E = k := by
                have := HK.out
                rw [Rx.runEnd, if_neg (fun hcon => by rw [decide_eq_true hcon.1, hcon.2] at hon; cases hon)] at this
                exact this.symm
              subst hEk
              have ht := two_any c hc _ HI.out.glo (by have := HI.out.bel.size; omega)
              clear hon HK
              go_wp2_with fail
              refine ht.mono ?_
              rintro e w3 ⟨rfl, hb3⟩
              have HG3 : Hid (Glo w3) := HI.out.glo.kept (S := fun _ => False) (Kept.of_below hb3) (fun _ h => h.elim) (by have := HI.out.bel.size; omega)
              have hsz3 := hb3.size
              have hszr := HI.out.bel.size
              have ht2 := two_any E (by omega) w3 HG3.out (by omega)
              clear ht
              go_upto_if 36 with fail
              go_cut [6, 36, 37, 38, 39, 40, 41] (fun s6 _ _ _ _ _ _ wx => s6 = .string ⟨(runText c E).toArray⟩ ∧ Below w3.heap.size w3 wx)
              case first =>
                by_cases hgt : c < E
                · have HT : Hid (runText c E = Rx.two c ++ 45 :: Rx.two E) := by show _ = _; unfold runText; rw [if_pos hgt]
                  have e1 : (⟨#[45]⟩ : ByteArray) ++ ⟨(Rx.two E).toArray⟩ = ⟨(45 :: Rx.two E).toArray⟩ := by apply ByteArray.ext; simp
                  have e2 : (⟨(Rx.two c).toArray⟩ : ByteArray) ++ ⟨(45 :: Rx.two E).toArray⟩ = ⟨(Rx.two c ++ 45 :: Rx.two E).toArray⟩ := by apply ByteArray.ext; simp
                  have hl2 := two_len E (by omega)
                  have hl1 := two_len c hc
                  generalize Rx.two E = t2 at *
                  generalize Rx.two c = t1 at *
                  go_wp2_with fail
                  refine ht2.mono ?_
                  rintro e w4 ⟨rfl, hb4⟩
                  go_wp2_with fail
                  go_meet
                  exact ⟨by rw [HT.out], hb4⟩
                · have HT : Hid (runText c E = Rx.two c) := by show _ = _; unfold runText; rw [if_neg hgt]
                  clear ht2
                  generalize Rx.two c = t1 at *
                  go_wp2_with fail
                  go_meet
                  exact ⟨by rw [HT.out], Below.refl _ _⟩
              case rest =>
                obtain ⟨rfl, hb4⟩ := hcut
                clear ht2
                have hbr : Below w.heap.size w wc := (HI.out.bel.trans (hb3.mono hszr)).trans (hb4.mono (by omega))
                have hstr : StrsAt wc w.heap.size u3 done := HI.out.strs.kept (Kept.of_below (S := fun _ => False) (hb3.trans (hb4.mono (by omega)))) (fun _ _ h => h)
                have hown := hstr.own
                have hszc := hbr.size
                have hlen := HI.out.len
                have hfuel := HI.out.fuel
                have hob : ∀ k, u3.ownBlock = some k → w.heap.size ≤ k := fun k e => (hown.lt k e).1
                have HOB := Lib.hid hob
                have HBR := Lib.hid hbr
                clear hob hbr hstr hb3 hb4 c0
                generalize hRT : runText c E = tx at *
                go_wp2_with (at_builtin; refine wpList_append_own_at _ rfl _ _ 100 rfl w.heap.size 9 i0 (.string ⟨#[]⟩) 1 16 Tryz.underlying100 hi hz0 hz1 hz2 rfl (by decide) _ _ _ rfl (hown.alloc _) ⟨wc.heap.size, 0, none⟩ 1 1 [strV tx] rfl rfl (cell_one_new _ _ _) (by simp [strV, Value.oneCell']) (by unfold maxLen; omega) (by omega) (by simp; omega) ?_; intro v' w5 hown' hgrow _ hv')
                have hgrow : (wc.alloc (.cells #[strV tx] 9)).grownBy w5 u3.ownBlock := hgrow
                have hbel5 : Below w.heap.size w w5 := ((Kept.of_below (S := fun _ => False) HBR.out).pushed hgrow HOB.out).below
                refine ⟨⟨E + 1, done ++ [tx], f, by go_num, ⟨fun e => by simp at e, by simpa using hown'⟩, HB0.out.keep hbel5 hplt, HG0.out.kept (Kept.of_below (S := fun _ => False) hbel5) (fun _ h => h.elim) h8, hbel5, by omega, by simp; omega, by omega, ?_⟩, ?_⟩
                · show _ = _
                  rw [HE.out]; simp
                · show 256 - ((E : Int) + 1).toNat < 256 - (c : Int).toNat
                  omega
    · obtain rfl : c = 256 := by omega
      have hd : Rx.rangesF h 257 0 = done := by
        have := I.eq.out
        rw [rangesF_end] at this
        simpa using this
      have HD : Hid (Rx.ranges h = 60 :: Rx.sepBy [44] done ++ [62]) := by show _ = _; unfold Rx.ranges; rw [hd]
      have hdl : done.length ≤ 257 := by rw [← hd]; exact HCNT
      have hsl := sepBy_len [44] 5 done (by rw [← hd]; exact HTXT.out)
      have hsl2 : (Rx.sepBy [44] done).length ≤ 2000 := by
        have : done.length * (5 + 1) ≤ 257 * 6 := Nat.mul_le_mul hdl (by decide)
        simp only [List.length_cons, List.length_nil] at hsl
        omega
      have hj := joinS_any [44] _ done w.heap.size _ I.strs (by omega) (by omega)
      have hbel := I.bel
      generalize Rx.sepBy [44] done = tx at *
      have e1 : (⟨#[60]⟩ : ByteArray) ++ ⟨tx.toArray⟩ = ⟨(60 :: tx).toArray⟩ := by apply ByteArray.ext; simp
      have e2 : (⟨(60 :: tx).toArray⟩ : ByteArray) ++ ⟨#[62]⟩ = ⟨(60 :: tx ++ [62]).toArray⟩ := by apply ByteArray.ext; simp
      clear I hd
      go_wp2_with fail
      refine hj.mono ?_
      rintro e w3 ⟨rfl, hb3⟩
      go_wp2_with fail
      go_ret
      refine ⟨?_, hbel.trans (hb3.mono hbel.size)⟩
      rw [HD.out]
      rfl

end Go.Proofs.YthdkbbkkijdhfaaGreatDoor
