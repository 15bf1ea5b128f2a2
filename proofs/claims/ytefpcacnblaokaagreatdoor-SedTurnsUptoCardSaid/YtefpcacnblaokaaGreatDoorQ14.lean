/-
  Texts of this seat put together: GW10, GW11, GW12.
-/
import Derived.Test.YtefpcacnblaokaaGreatDoorQ13
import Derived.Lib.QuietBelow

/-
  The walks of number, times, piece. Condition: what is told lies in memory.
-/
set_option maxRecDepth 100000
set_option maxHeartbeats 1600000
namespace Go.Proofs.YtefpcacnblaokaaGreatDoor.Rg
open Go.RowKit Go.Shelf Go.Maps Go.Sort
theorem digit_same:Rx.digit=Ord.digit:=rfl
theorem rx_number (s:Rx.Bytes):Rx.number s=(Ord.number (s.takeWhile Ord.digit) 255).map fun v=>(v.toNat,s.dropWhile Ord.digit):=by
 have ha:(s.takeWhile Ord.digit).all Ord.digit=true:=List.all_takeWhile
 unfold Rx.number
 simp only []
 rw [digit_same]
 unfold Ord.number
 rw [ha]
 have hv:Rx.value (s.takeWhile Ord.digit)=Ord.value (s.takeWhile Ord.digit):=rfl
 rw [hv]
 have e:decide (((Ord.value (s.takeWhile Ord.digit):Nat):Int)≤255)=decide (Ord.value (s.takeWhile Ord.digit)≤255):=by congr 1;apply propext;omega
 rw [e,Bool.and_true]
 by_cases h:(!(s.takeWhile Ord.digit).isEmpty && decide (Ord.value (s.takeWhile Ord.digit)≤255))=true
 ·rw [if_pos h,if_pos h];rfl
 ·rw [if_neg h,if_neg h];rfl
theorem ord_number_nat {s:Ord.Bytes} {m v:Int} (h:Ord.number s m=some v):((v.toNat:Nat):Int)=v:=by
 unfold Ord.number at h
 split at h
 ·cases h;omega
 ·cases h
def NumPost (r:Nat) (s:Rx.Bytes) (ext fold:Bool) (e:Ending) (w':World):Prop:=match Rx.number s with
 | none=>e=.panicked [{ v:=brokenV,recovered:=false }]
 | some (n,s')=>e=.returned (.int .i64 n)∧RdAt w' r s' ext fold
theorem rnumber_any (r:Nat) (s:Rx.Bytes) (ext fold:Bool) (w:World) (hr:Rd w r s ext fold) :
  Calls Tryz.prog 333 #[.pointer (some ⟨r,0,none⟩)] w fun e w'=>NumPost r s ext fold e w'∧Kept (·=r) w w':=by
 have h8:=hr.hr
 have hlen:=hr.len
 have c0:w.cell? ⟨r,0,none⟩=some (.string ⟨s.toArray⟩):=Blk.cell hr.at_ 0 rfl
 have htl:=trimLeft_any s [48,49,50,51,52,53,54,55,56,57] Ord.digit digit_contains (by decide) (by decide) w
 have hd:(s.dropWhile Ord.digit).length≤s.length:=(List.dropWhile_sublist _).length_le
 have htt:(s.takeWhile Ord.digit).length≤s.length:=(List.takeWhile_sublist _).length_le
 have HT:=Lib.hid (take_sub_drop s Ord.digit)
 have HX:=Lib.hid (rx_number s)
 have HR:=Lib.hid hr
 have HP:Hid (∀ x,Rx.number s=x→∀ e w',(match x with
  | none=>e=.panicked [{ v:=brokenV,recovered:=false }]
  | some (n,s')=>e=.returned (.int .i64 n)∧RdAt w' r s' ext fold)→NumPost r s ext fold e w'):=by
  rintro x rfl e w' h;exact h
 clear hr
 go_enter Tryz.func333,Tryz.ntmps333
 go_wp2_with fail
 refine htl.mono ?_
 rintro e w1 ⟨rfl,hb1⟩
 have hr1:Rd w1 r s ext fold:=HR.out.self (Kept.of_below hb1) (HR.out.at_.keep hb1 HR.out.lt) (Nat.le_refl _)
 have HK1:=Lib.hid (Kept.of_below (S:=(·=r)) hb1)
 have c1:w1.cell? ⟨r,0,none⟩=some (.string ⟨s.toArray⟩):=Blk.cell hr1.at_ 0 rfl
 clear htl c0 hb1
 go_upto_region 2 with fail
 have hpa:∀ d os,Calls Tryz.prog 176 #[.string ⟨(s.takeWhile Ord.digit).toArray⟩,.int .i64 255] (grow (redrawn w1 d) os) fun e w'=>e=.returned (numVal (s.takeWhile Ord.digit) 255)∧∃ p:Regrown,w'=grow (redrawn w1 p.d) p.os:=fun d os=>by
  refine Calls.regrown_of (number_any (s.takeWhile Ord.digit) 255 (by omega) (by decide) (by decide) _ ?_ ?_)
  ·exact hr1.glo.kept (Kept.of_below (S:=fun _=>False) (below_regrown w1 d os)) (fun _ h=>h.elim) (by have:=hr1.lt;omega)
  ·have:=(below_regrown w1 d os).size;have:=hr1.lt;omega
 have kk:=cell_regrown c1
 have hsub:((s.length:Int) - ((s.dropWhile Ord.digit).length:Int))=(((s.takeWhile Ord.digit).length:Nat):Int):=by
  have h:=congrArg List.length (List.takeWhile_append_dropWhile (p:=Ord.digit) (l:=s))
  simp only [List.length_append] at h
  omega
 have hwr:IntKind.i64.wrap (((s.takeWhile Ord.digit).length:Nat):Int)=(((s.takeWhile Ord.digit).length:Nat):Int):=by
  have:(((s.takeWhile Ord.digit).length:Nat):Int) < 1073741824:=by omega
  simp [IntKind.wrap,IntKind.signed,IntKind.bits];omega
 have hex:(⟨s.toArray⟩:ByteArray).extract 0 (s.takeWhile Ord.digit).length=⟨(s.takeWhile Ord.digit).toArray⟩:=by
  rw [extract_take]
  congr 2
  have h:=List.takeWhile_append_dropWhile (p:=Ord.digit) (l:=s)
  have h2:(s.takeWhile Ord.digit ++ s.dropWhile Ord.digit).take (s.takeWhile Ord.digit).length=s.takeWhile Ord.digit:=List.take_left
  rw [h] at h2
  exact h2
 have hd2:(s.dropWhile Ord.digit).length < 1073741824:=by omega
 cases hn:Ord.number (s.takeWhile Ord.digit) 255 with
 | none=>
  have hnv:numVal (s.takeWhile Ord.digit) 255=.tuple #[.int .i64 0,.bool false]:=by unfold numVal;rw [hn]
  rw [hnv] at hpa
  have HX2:Hid (Rx.number s=none):=by show _=_;rw [HX.out,hn];rfl
  clear hn hnv
  refine wp_region_quiet_below (by kernel_rfl) (by kernel_rfl) ?_
  repeat (quiet_step (first | with_reducible exact hpa _ _))
  refine wpQuiet_nil ?_
  intro _ hw'
  obtain ⟨⟨dq,osq⟩,hw''⟩:=hw'
  subst hw''
  have hbb:=below_regrown w1 dq osq
  have HK2:Hid (Kept (·=r) w (grow (redrawn w1 dq) osq)):=HK1.out.trans (Kept.of_below hbb)
  clear hpa kk hbb
  generalize grow (redrawn w1 dq) osq=w2 at *
  go_wp2_with fail
  refine (fail_any _).mono ?_
  rintro e w3 ⟨rfl,rfl⟩
  go_wp2_with fail
  exact ⟨rfl,HP.out none HX2.out _ _ rfl,HK2.out⟩
 | some v=>
  have hnv:numVal (s.takeWhile Ord.digit) 255=.tuple #[.int .i64 v,.bool true]:=by unfold numVal;rw [hn]
  rw [hnv] at hpa
  have hvn:=ord_number_nat hn
  have HX2:Hid (Rx.number s=some (v.toNat,s.dropWhile Ord.digit)):=by show _=_;rw [HX.out,hn];rfl
  clear hn hnv
  refine wp_region_quiet_below (by kernel_rfl) (by kernel_rfl) ?_
  repeat (quiet_step (first | with_reducible exact hpa _ _))
  refine wpQuiet_nil ?_
  intro _ hw'
  obtain ⟨⟨dq,osq⟩,hw''⟩:=hw'
  subst hw''
  have hbb:=below_regrown w1 dq osq
  have HK2:Hid (Kept (·=r) w (grow (redrawn w1 dq) osq)):=HK1.out.trans (Kept.of_below hbb)
  have hr2:=hr1.at_.keep hbb hr1.lt
  clear hpa kk hbb hr1 c1
  generalize grow (redrawn w1 dq) osq=w2 at *
  have c0:w2.cell? ⟨r,0,none⟩=some (.string ⟨s.toArray⟩):=Blk.cell hr2 0 rfl
  have f0:=hr2.free 0
  go_wp2_with fail
  go_ret
  refine ⟨HP.out _ HX2.out _ _ ⟨by rw [hvn];rfl,hr2.set 0 _⟩,HK2.out.setCell (.inl rfl) 0 _⟩
def timesVal:Option (Nat × Int)→Value
 | none=>.tuple #[.int .i64 0,.int .i64 0,.bool false]
 | some (m,n)=>.tuple #[.int .i64 m,.int .i64 n,.bool true]
def TimesPost (r:Nat) (s:Rx.Bytes) (ext fold:Bool) (e:Ending) (w':World):Prop:=match Rx.times ext s with
 | none=>e=.panicked [{ v:=brokenV,recovered:=false }]
 | some (x,s')=>e=.returned (timesVal x)∧RdAt w' r s' ext fold
theorem number_len {s s':Rx.Bytes} {n:Nat} (h:Rx.number s=some (n,s')):s'.length≤s.length:=by
 unfold Rx.number at h
 simp only [] at h
 split at h
 ·cases h;exact (List.dropWhile_sublist _).length_le
 ·cases h
structure Go1 (w wx:World) (r:Nat) (s:Rx.Bytes) (ext fold:Bool):Prop where
 rd:Rd wx r s ext fold
 kept:Kept (·=r) w wx
theorem Go1.go {w wx w':World} {r:Nat} {s s':Rx.Bytes} {ext fold:Bool} (G:Go1 w wx r s ext fold) (hr:RdAt w' r s' ext fold) (hk:Kept (·=r) wx w') (hl:s'.length≤s.length):Go1 w w' r s' ext fold:=
 ⟨G.rd.self hk hr hl,G.kept.trans hk⟩
theorem Go1.cell {w wx:World} {r:Nat} {s:Rx.Bytes} {ext fold:Bool} (G:Go1 w wx r s ext fold):wx.cell? ⟨r,0,none⟩=some (.string ⟨s.toArray⟩):=Blk.cell G.rd.at_ 0 rfl
theorem Go1.ext {w wx:World} {r:Nat} {s:Rx.Bytes} {ext fold:Bool} (G:Go1 w wx r s ext fold):wx.cell? ⟨r,1,none⟩=some (.bool ext):=Blk.cell G.rd.at_ 1 rfl
theorem Go1.take {w wx:World} {r:Nat} {s:Rx.Bytes} {ext fold:Bool} (G:Go1 w wx r s ext fold) (t:Rx.Bytes) (x:Option Rx.Bytes) (hx:Rx.take t s=x) :
  Calls Tryz.prog 273 #[.pointer (some ⟨r,0,none⟩),.string ⟨t.toArray⟩] wx fun e w'=>e=.returned (.bool x.isSome)∧Go1 w w' r (x.getD s) ext fold:=by
 refine (take_any r t s ext fold wx G.rd.at_).mono ?_
 rintro e w' ⟨h1,hk⟩
 unfold TakePost at h1
 rw [hx] at h1
 cases x with
 | none=>exact ⟨h1.1,G.go h1.2 hk (Nat.le_refl _)⟩
 | some s'=>exact ⟨h1.1,G.go h1.2 hk (take_len hx)⟩
theorem Go1.number {w wx:World} {r:Nat} {s:Rx.Bytes} {ext fold:Bool} (G:Go1 w wx r s ext fold) (x:Option (Nat × Rx.Bytes)) (hx:Rx.number s=x) :
  Calls Tryz.prog 333 #[.pointer (some ⟨r,0,none⟩)] wx fun e w'=>match x with
   | none=>e=.panicked [{ v:=brokenV,recovered:=false }]∧Kept (·=r) w w'
   | some (n,s')=>e=.returned (.int .i64 n)∧Go1 w w' r s' ext fold:=by
 refine (rnumber_any r s ext fold wx G.rd).mono ?_
 rintro e w' ⟨h1,hk⟩
 unfold NumPost at h1
 rw [hx] at h1
 cases x with
 | none=>exact ⟨h1,G.kept.trans hk⟩
 | some y=>obtain ⟨n,s'⟩:=y;exact ⟨h1.1,G.go h1.2 hk (number_len hx)⟩
theorem Go1.must {w wx:World} {r:Nat} {s:Rx.Bytes} {ext fold:Bool} (G:Go1 w wx r s ext fold) (t:Rx.Bytes) (x:Option Rx.Bytes) (hx:Rx.take t s=x) :
  Calls Tryz.prog 305 #[.pointer (some ⟨r,0,none⟩),.string ⟨t.toArray⟩] wx fun e w'=>match x with
   | none=>e=.panicked [{ v:=brokenV,recovered:=false }]∧Kept (·=r) w w'
   | some s'=>e=.returned (.tuple #[])∧Go1 w w' r s' ext fold:=by
 refine (must_any r t s ext fold wx G.rd.at_).mono ?_
 rintro e w' ⟨h1,hk⟩
 unfold MustPost at h1
 rw [hx] at h1
 cases x with
 | none=>exact ⟨h1,G.kept.trans hk⟩
 | some s'=>exact ⟨h1.1,G.go h1.2 hk (take_len hx)⟩
theorem Go1.next {w wx:World} {r:Nat} {s:Rx.Bytes} {ext fold:Bool} (G:Go1 w wx r s ext fold) :
  Calls Tryz.prog 275 #[.pointer (some ⟨r,0,none⟩)] wx fun e w'=>match s with
   | []=>e=.panicked [{ v:=brokenV,recovered:=false }]∧Kept (·=r) w w'
   | c :: s'=>e=.returned (.int .u8 c.toNat)∧Go1 w w' r s' ext fold:=by
 refine (next_any r s ext fold wx G.rd.at_).mono ?_
 rintro e w' ⟨h1,hk⟩
 unfold NextPost at h1
 cases s with
 | nil=>exact ⟨h1,G.kept.trans hk⟩
 | cons c s'=>exact ⟨h1.1,G.go h1.2 hk (by simp)⟩
theorem times_true (r:Nat) (s:Rx.Bytes) (fold:Bool) (w:World) (hr:Rd w r s true fold) :
  Calls Tryz.prog 304 #[.pointer (some ⟨r,0,none⟩)] w fun e w'=>TimesPost r s true fold e w'∧Kept (·=r) w w':=by
 have HP:Hid (∀ x,Rx.times true s=x→∀ e w',(match x with
  | none=>e=.panicked [{ v:=brokenV,recovered:=false }]
  | some (x,s')=>e=.returned (timesVal x)∧RdAt w' r s' true fold)→TimesPost r s true fold e w'):=by
  rintro x rfl e w' h;exact h
 generalize TimesPost r s true fold=POST at HP ⊢
 have G:Go1 w w r s true fold:=⟨hr,Kept.refl _ _⟩
 have c1:=G.ext
 clear hr
 go_enter Tryz.func304,Tryz.ntmps304
 cases h42:Rx.take [42] s with
 | some u=>
  have hc:=G.take [42] _ h42
  go_wp2_with fail
  refine hc.mono ?_
  rintro e wy ⟨rfl,G1⟩
  clear hc
  have HX:Hid (Rx.times true s=some (some (0,-1),u)):=by show _=_;simp [Rx.times,h42]
  clear h42
  go_wp2_with fail
  go_ret3
  exact ⟨HP.out _ HX.out _ _ ⟨rfl,G1.rd.at_⟩,G1.kept⟩
 | none=>
  have hc:=G.take [42] _ h42
  go_wp2_with fail
  refine hc.mono ?_
  rintro e wy ⟨rfl,G1⟩
  clear hc
  have c1:=G1.ext
  cases h43:Rx.take [43] s with
  | some u=>
   have hc:=G1.take [43] _ h43
   go_wp2_with fail
   refine hc.mono ?_
   rintro e wy ⟨rfl,G2⟩
   clear hc
   have HX:Hid (Rx.times true s=some (some (1,-1),u)):=by show _=_;simp [Rx.times,h42,h43]
   clear h42 h43
   go_wp2_with fail
   go_ret3
   exact ⟨HP.out _ HX.out _ _ ⟨rfl,G2.rd.at_⟩,G2.kept⟩
  | none=>
   have hc:=G1.take [43] _ h43
   go_wp2_with fail
   refine hc.mono ?_
   rintro e wy ⟨rfl,G2⟩
   clear hc
   have c1:=G2.ext
   cases h63:Rx.take [63] s with
   | some u=>
    have hc:=G2.take [63] _ h63
    go_wp2_with fail
    refine hc.mono ?_
    rintro e wy ⟨rfl,G3⟩
    clear hc
    have HX:Hid (Rx.times true s=some (some (0,1),u)):=by show _=_;simp [Rx.times,h42,h43,h63]
    clear h42 h43 h63
    go_wp2_with fail
    go_ret3
    exact ⟨HP.out _ HX.out _ _ ⟨rfl,G3.rd.at_⟩,G3.kept⟩
   | none=>
    have hc:=G2.take [63] _ h63
    go_wp2_with fail
    refine hc.mono ?_
    rintro e wy ⟨rfl,G3⟩
    clear hc
    cases ho:Rx.take [123] s with
    | some u=>
     have hc:=G3.take [123] _ ho
     go_wp2_with fail
     refine hc.mono ?_
     rintro e wy ⟨rfl,G4⟩
     clear hc
     simp only [Option.getD_some] at G4
     cases hn:Rx.number u with
     | none=>
      have hc:=G4.number _ hn
      go_wp2_with fail
      refine hc.mono ?_
      rintro e wy ⟨rfl,hk⟩
      have HX:Hid (Rx.times true s=none):=by show _=_;simp [Rx.times,h42,h43,h63,ho,hn]
      clear h42 h43 h63 ho hn
      go_wp2_with fail
      exact ⟨rfl,HP.out _ HX.out _ _ rfl,hk⟩
     | some y=>
      obtain ⟨m,u1⟩:=y
      have hc:=G4.number _ hn
      go_wp2_with fail
      refine hc.mono ?_
      rintro e wy ⟨rfl,G5⟩
      clear hc
      cases hco:Rx.take [44] u1 with
      | none=>
       have hc:=G5.take [44] _ hco
       go_wp2_with fail
       refine hc.mono ?_
       rintro e wy ⟨rfl,G6⟩
       clear hc
       simp only [Option.getD_none] at G6
       cases hsh:Rx.take [125] u1 with
       | none=>
        have hc:=G6.must [125] _ hsh
        have HX:Hid (Rx.times true s=none):=by show _=_;simp [Rx.times,h42,h43,h63,ho,hn,hco,hsh]
        go_wp2_with fail
        refine hc.mono ?_
        rintro e wz ⟨rfl,hk⟩
        clear hc h42 h43 h63 ho hn hco hsh
        go_wp2_with fail
        exact ⟨rfl,HP.out _ HX.out _ _ rfl,hk⟩
       | some v=>
        have hc:=G6.must [125] _ hsh
        have HX:Hid (Rx.times true s=some (some (m,(m:Int)),v)):=by show _=_;simp [Rx.times,h42,h43,h63,ho,hn,hco,hsh]
        go_wp2_with fail
        refine hc.mono ?_
        rintro e wz ⟨rfl,G9⟩
        clear hc h42 h43 h63 ho hn hco hsh
        go_wp2_with fail
        go_ret3
        exact ⟨HP.out _ HX.out _ _ ⟨rfl,G9.rd.at_⟩,G9.kept⟩
      | some u2=>
       have hc:=G5.take [44] _ hco
       go_wp2_with fail
       refine hc.mono ?_
       rintro e wy ⟨rfl,G6⟩
       clear hc
       simp only [Option.getD_some] at G6
       have c0:=G6.cell
       have hp:=hasPrefix_any u2 [125]
       cases hq:([125]:Rx.Bytes).isPrefixOf u2 with
       | true=>
        rw [hq] at hp
        go_wp2_with fail
        refine (hp _).mono ?_
        rintro e wy ⟨rfl,rfl⟩
        clear hp c0
        cases hsh:Rx.take [125] u2 with
        | none=>
         have hc:=G6.must [125] _ hsh
         have HX:Hid (Rx.times true s=none):=by show _=_;simp [Rx.times,h42,h43,h63,ho,hn,hco,hq,hsh]
         go_wp2_with fail
         refine hc.mono ?_
         rintro e wz ⟨rfl,hk⟩
         clear hc h42 h43 h63 ho hn hco hq hsh
         go_wp2_with fail
         exact ⟨rfl,HP.out _ HX.out _ _ rfl,hk⟩
        | some v=>
         have hc:=G6.must [125] _ hsh
         have HX:Hid (Rx.times true s=some (some (m,(-1)),v)):=by show _=_;simp [Rx.times,h42,h43,h63,ho,hn,hco,hq,hsh]
         go_wp2_with fail
         refine hc.mono ?_
         rintro e wz ⟨rfl,G9⟩
         clear hc h42 h43 h63 ho hn hco hq hsh
         go_wp2_with fail
         go_ret3
         exact ⟨HP.out _ HX.out _ _ ⟨rfl,G9.rd.at_⟩,G9.kept⟩
       | false=>
        rw [hq] at hp
        go_wp2_with fail
        refine (hp _).mono ?_
        rintro e wy ⟨rfl,rfl⟩
        clear hp c0
        cases hn2:Rx.number u2 with
        | none=>
         have hc:=G6.number _ hn2
         go_wp2_with fail
         refine hc.mono ?_
         rintro e wy ⟨rfl,hk⟩
         have HX:Hid (Rx.times true s=none):=by show _=_;simp [Rx.times,h42,h43,h63,ho,hn,hco,hq,hn2]
         clear h42 h43 h63 ho hn hco hq hn2
         go_wp2_with fail
         exact ⟨rfl,HP.out _ HX.out _ _ rfl,hk⟩
        | some y=>
         obtain ⟨n,u3⟩:=y
         have hc:=G6.number _ hn2
         go_wp2_with fail
         refine hc.mono ?_
         rintro e wy ⟨rfl,G7⟩
         clear hc
         by_cases hlt:n < m
         ·have HX:Hid (Rx.times true s=none):=by show _=_;simp [Rx.times,h42,h43,h63,ho,hn,hco,hq,hn2,hlt]
          have hlt2:(n:Int) < m:=by omega
          clear h42 h43 h63 ho hn hco hq hn2 hlt
          go_wp2_with fail
          refine (fail_any _).mono ?_
          rintro e wz ⟨rfl,rfl⟩
          go_wp2_with fail
          exact ⟨rfl,HP.out _ HX.out _ _ rfl,G7.kept⟩
         ·have hlt2:¬ (n:Int) < m:=by omega
          cases hsh:Rx.take [125] u3 with
          | none=>
           have hc:=G7.must [125] _ hsh
           have HX:Hid (Rx.times true s=none):=by show _=_;simp [Rx.times,h42,h43,h63,ho,hn,hco,hq,hn2,hlt,hsh]
           go_wp2_with fail
           refine hc.mono ?_
           rintro e wz ⟨rfl,hk⟩
           clear hc h42 h43 h63 ho hn hco hq hn2 hlt hsh
           go_wp2_with fail
           exact ⟨rfl,HP.out _ HX.out _ _ rfl,hk⟩
          | some v=>
           have hc:=G7.must [125] _ hsh
           have HX:Hid (Rx.times true s=some (some (m,(n:Int)),v)):=by show _=_;simp [Rx.times,h42,h43,h63,ho,hn,hco,hq,hn2,hlt,hsh]
           go_wp2_with fail
           refine hc.mono ?_
           rintro e wz ⟨rfl,G9⟩
           clear hc h42 h43 h63 ho hn hco hq hn2 hlt hsh
           go_wp2_with fail
           go_ret3
           exact ⟨HP.out _ HX.out _ _ ⟨rfl,G9.rd.at_⟩,G9.kept⟩
    | none=>
     have hc:=G3.take [123] _ ho
     go_wp2_with fail
     refine hc.mono ?_
     rintro e wy ⟨rfl,G4⟩
     clear hc
     have HX:Hid (Rx.times true s=some (none,s)):=by show _=_;simp [Rx.times,h42,h43,h63,ho]
     clear h42 h43 h63 ho
     go_wp2_with fail
     go_ret3
     exact ⟨HP.out _ HX.out _ _ ⟨rfl,G4.rd.at_⟩,G4.kept⟩
theorem times_false (r:Nat) (s:Rx.Bytes) (fold:Bool) (w:World) (hr:Rd w r s false fold) :
  Calls Tryz.prog 304 #[.pointer (some ⟨r,0,none⟩)] w fun e w'=>TimesPost r s false fold e w'∧Kept (·=r) w w':=by
 have HP:Hid (∀ x,Rx.times false s=x→∀ e w',(match x with
  | none=>e=.panicked [{ v:=brokenV,recovered:=false }]
  | some (x,s')=>e=.returned (timesVal x)∧RdAt w' r s' false fold)→TimesPost r s false fold e w'):=by
  rintro x rfl e w' h;exact h
 generalize TimesPost r s false fold=POST at HP ⊢
 have G:Go1 w w r s false fold:=⟨hr,Kept.refl _ _⟩
 have c1:=G.ext
 clear hr
 go_enter Tryz.func304,Tryz.ntmps304
 cases h42:Rx.take [42] s with
 | some u=>
  have hc:=G.take [42] _ h42
  go_wp2_with fail
  refine hc.mono ?_
  rintro e wy ⟨rfl,G1⟩
  clear hc
  have HX:Hid (Rx.times false s=some (some (0,-1),u)):=by show _=_;simp [Rx.times,h42]
  clear h42
  go_wp2_with fail
  go_ret3
  exact ⟨HP.out _ HX.out _ _ ⟨rfl,G1.rd.at_⟩,G1.kept⟩
 | none=>
  have hc:=G.take [42] _ h42
  go_wp2_with fail
  refine hc.mono ?_
  rintro e wy ⟨rfl,G1⟩
  clear hc
  have c1:=G1.ext
  cases ho:Rx.take [92,123] s with
  | some u=>
   have hc:=G1.take [92,123] _ ho
   go_wp2_with fail
   refine hc.mono ?_
   rintro e wy ⟨rfl,G4⟩
   clear hc
   simp only [Option.getD_some] at G4
   cases hn:Rx.number u with
   | none=>
    have hc:=G4.number _ hn
    go_wp2_with fail
    refine hc.mono ?_
    rintro e wy ⟨rfl,hk⟩
    have HX:Hid (Rx.times false s=none):=by show _=_;simp [Rx.times,h42,ho,hn]
    clear h42 ho hn
    go_wp2_with fail
    exact ⟨rfl,HP.out _ HX.out _ _ rfl,hk⟩
   | some y=>
    obtain ⟨m,u1⟩:=y
    have hc:=G4.number _ hn
    go_wp2_with fail
    refine hc.mono ?_
    rintro e wy ⟨rfl,G5⟩
    clear hc
    cases hco:Rx.take [44] u1 with
    | none=>
     have hc:=G5.take [44] _ hco
     go_wp2_with fail
     refine hc.mono ?_
     rintro e wy ⟨rfl,G6⟩
     clear hc
     simp only [Option.getD_none] at G6
     cases hsh:Rx.take [92,125] u1 with
     | none=>
      have hc:=G6.must [92,125] _ hsh
      have HX:Hid (Rx.times false s=none):=by show _=_;simp [Rx.times,h42,ho,hn,hco,hsh]
      go_wp2_with fail
      refine hc.mono ?_
      rintro e wz ⟨rfl,hk⟩
      clear hc h42 ho hn hco hsh
      go_wp2_with fail
      exact ⟨rfl,HP.out _ HX.out _ _ rfl,hk⟩
     | some v=>
      have hc:=G6.must [92,125] _ hsh
      have HX:Hid (Rx.times false s=some (some (m,(m:Int)),v)):=by show _=_;simp [Rx.times,h42,ho,hn,hco,hsh]
      go_wp2_with fail
      refine hc.mono ?_
      rintro e wz ⟨rfl,G9⟩
      clear hc h42 ho hn hco hsh
      go_wp2_with fail
      go_ret3
      exact ⟨HP.out _ HX.out _ _ ⟨rfl,G9.rd.at_⟩,G9.kept⟩
    | some u2=>
     have hc:=G5.take [44] _ hco
     go_wp2_with fail
     refine hc.mono ?_
     rintro e wy ⟨rfl,G6⟩
     clear hc
     simp only [Option.getD_some] at G6
     have c0:=G6.cell
     have hp:=hasPrefix_any u2 [92,125]
     cases hq:([92,125]:Rx.Bytes).isPrefixOf u2 with
     | true=>
      rw [hq] at hp
      go_wp2_with fail
      refine (hp _).mono ?_
      rintro e wy ⟨rfl,rfl⟩
      clear hp c0
      cases hsh:Rx.take [92,125] u2 with
      | none=>
       have hc:=G6.must [92,125] _ hsh
       have HX:Hid (Rx.times false s=none):=by show _=_;simp [Rx.times,h42,ho,hn,hco,hq,hsh]
       go_wp2_with fail
       refine hc.mono ?_
       rintro e wz ⟨rfl,hk⟩
       clear hc h42 ho hn hco hq hsh
       go_wp2_with fail
       exact ⟨rfl,HP.out _ HX.out _ _ rfl,hk⟩
      | some v=>
       have hc:=G6.must [92,125] _ hsh
       have HX:Hid (Rx.times false s=some (some (m,(-1)),v)):=by show _=_;simp [Rx.times,h42,ho,hn,hco,hq,hsh]
       go_wp2_with fail
       refine hc.mono ?_
       rintro e wz ⟨rfl,G9⟩
       clear hc h42 ho hn hco hq hsh
       go_wp2_with fail
       go_ret3
       exact ⟨HP.out _ HX.out _ _ ⟨rfl,G9.rd.at_⟩,G9.kept⟩
     | false=>
      rw [hq] at hp
      go_wp2_with fail
      refine (hp _).mono ?_
      rintro e wy ⟨rfl,rfl⟩
      clear hp c0
      cases hn2:Rx.number u2 with
      | none=>
       have hc:=G6.number _ hn2
       go_wp2_with fail
       refine hc.mono ?_
       rintro e wy ⟨rfl,hk⟩
       have HX:Hid (Rx.times false s=none):=by show _=_;simp [Rx.times,h42,ho,hn,hco,hq,hn2]
       clear h42 ho hn hco hq hn2
       go_wp2_with fail
       exact ⟨rfl,HP.out _ HX.out _ _ rfl,hk⟩
      | some y=>
       obtain ⟨n,u3⟩:=y
       have hc:=G6.number _ hn2
       go_wp2_with fail
       refine hc.mono ?_
       rintro e wy ⟨rfl,G7⟩
       clear hc
       by_cases hlt:n < m
       ·have HX:Hid (Rx.times false s=none):=by show _=_;simp [Rx.times,h42,ho,hn,hco,hq,hn2,hlt]
        have hlt2:(n:Int) < m:=by omega
        clear h42 ho hn hco hq hn2 hlt
        go_wp2_with fail
        refine (fail_any _).mono ?_
        rintro e wz ⟨rfl,rfl⟩
        go_wp2_with fail
        exact ⟨rfl,HP.out _ HX.out _ _ rfl,G7.kept⟩
       ·have hlt2:¬ (n:Int) < m:=by omega
        cases hsh:Rx.take [92,125] u3 with
        | none=>
         have hc:=G7.must [92,125] _ hsh
         have HX:Hid (Rx.times false s=none):=by show _=_;simp [Rx.times,h42,ho,hn,hco,hq,hn2,hlt,hsh]
         go_wp2_with fail
         refine hc.mono ?_
         rintro e wz ⟨rfl,hk⟩
         clear hc h42 ho hn hco hq hn2 hlt hsh
         go_wp2_with fail
         exact ⟨rfl,HP.out _ HX.out _ _ rfl,hk⟩
        | some v=>
         have hc:=G7.must [92,125] _ hsh
         have HX:Hid (Rx.times false s=some (some (m,(n:Int)),v)):=by show _=_;simp [Rx.times,h42,ho,hn,hco,hq,hn2,hlt,hsh]
         go_wp2_with fail
         refine hc.mono ?_
         rintro e wz ⟨rfl,G9⟩
         clear hc h42 ho hn hco hq hn2 hlt hsh
         go_wp2_with fail
         go_ret3
         exact ⟨HP.out _ HX.out _ _ ⟨rfl,G9.rd.at_⟩,G9.kept⟩
  | none=>
   have hc:=G1.take [92,123] _ ho
   go_wp2_with fail
   refine hc.mono ?_
   rintro e wy ⟨rfl,G4⟩
   clear hc
   have HX:Hid (Rx.times false s=some (none,s)):=by show _=_;simp [Rx.times,h42,ho]
   clear h42 ho
   go_wp2_with fail
   go_ret3
   exact ⟨HP.out _ HX.out _ _ ⟨rfl,G4.rd.at_⟩,G4.kept⟩
theorem times_any (r:Nat) (s:Rx.Bytes) (ext fold:Bool) (w:World) (hr:Rd w r s ext fold) :
  Calls Tryz.prog 304 #[.pointer (some ⟨r,0,none⟩)] w fun e w'=>TimesPost r s ext fold e w'∧Kept (·=r) w w':=by
 cases ext with
 | true=>exact times_true r s fold w hr
 | false=>exact times_false r s fold w hr
end Go.Proofs.YtefpcacnblaokaaGreatDoor.Rg

/-
  The walks of piece, escaped, join. Condition: what is told lies in memory.
-/
set_option maxRecDepth 100000
set_option maxHeartbeats 1600000
namespace Go.Proofs.YtefpcacnblaokaaGreatDoor.Rg
open Go.RowKit Go.Shelf Go.Maps
theorem Go1.times {w wx:World} {r:Nat} {s:Rx.Bytes} {ext fold:Bool} (G:Go1 w wx r s ext fold) (x:Option (Option (Nat × Int) × Rx.Bytes)) (hx:Rx.times ext s=x) (hl:∀ y s',x=some (y,s')→s'.length≤s.length) :
  Calls Tryz.prog 304 #[.pointer (some ⟨r,0,none⟩)] wx fun e w'=>match x with
   | none=>e=.panicked [{ v:=brokenV,recovered:=false }]∧Kept (·=r) w w'
   | some (y,s')=>e=.returned (timesVal y)∧Go1 w w' r s' ext fold:=by
 refine (times_any r s ext fold wx G.rd).mono ?_
 rintro e w' ⟨h1,hk⟩
 unfold TimesPost at h1
 rw [hx] at h1
 cases x with
 | none=>exact ⟨h1,G.kept.trans hk⟩
 | some y=>obtain ⟨n,s'⟩:=y;exact ⟨h1.1,G.go h1.2 hk (hl n s' rfl)⟩
theorem times_len {ext:Bool} {s s':Rx.Bytes} {y:Option (Nat × Int)} (h:Rx.times ext s=some (y,s')):s'.length≤s.length:=by
 unfold Rx.times at h
 simp only [] at h
 split at h
 ·rename_i r hr;cases h;exact take_len hr
 ·split at h
  ·rename_i r hr
   cases h
   split at hr
   ·exact take_len hr
   ·cases hr
  ·split at h
   ·rename_i r hr
    cases h
    split at hr
    ·exact take_len hr
    ·cases hr
   ·split at h
    ·cases h;exact Nat.le_refl _
    ·rename_i r hr
     have h0:=take_len hr
     split at h
     ·cases h
     ·rename_i m r1 hn
      have h1:=number_len hn
      split at h
      ·rw [Option.map_eq_some_iff] at h
       obtain ⟨r2,h2,h3⟩:=h
       cases h3
       have:=take_len h2;omega
      ·rename_i r2 h2
       have h2:=take_len h2
       by_cases hp:(if ext then ([125]:Rx.Bytes) else [92,125]).isPrefixOf r2=true
       ·rw [if_pos hp,Option.map_eq_some_iff] at h
        obtain ⟨r3,h3,h4⟩:=h
        cases h4
        have:=take_len h3;omega
       ·rw [if_neg hp] at h
        split at h
        ·cases h
        ·rename_i n r3 hn2
         have:=number_len hn2
         split at h
         ·cases h
         ·rw [Option.map_eq_some_iff] at h
          obtain ⟨r4,h4,h5⟩:=h
          cases h5
          have:=take_len h4;omega
theorem number_le {s s':Rx.Bytes} {n:Nat} (h:Rx.number s=some (n,s')):n≤255:=by
 unfold Rx.number at h
 simp only [] at h
 split at h
 ·rename_i hc
  cases h
  simp only [Bool.and_eq_true,decide_eq_true_eq] at hc
  exact hc.2
 ·cases h
theorem times_ok {ext:Bool} {s s':Rx.Bytes} {m:Nat} {most:Int} (h:Rx.times ext s=some (some (m,most),s')):m≤255∧-1≤most∧most≤255:=by
 unfold Rx.times at h
 simp only [] at h
 split at h
 ·cases h;decide
 ·split at h
  ·cases h;decide
  ·split at h
   ·cases h;decide
   ·split at h
    ·cases h
    ·split at h
     ·cases h
     ·rename_i m r1 hn
      have h1:=number_le hn
      split at h
      ·rw [Option.map_eq_some_iff] at h
       obtain ⟨r2,h2,h3⟩:=h
       cases h3
       omega
      ·rename_i r2 h2
       by_cases hp:(if ext then ([125]:Rx.Bytes) else [92,125]).isPrefixOf r2=true
       ·rw [if_pos hp,Option.map_eq_some_iff] at h
        obtain ⟨r3,h3,h4⟩:=h
        cases h4
        omega
       ·rw [if_neg hp] at h
        split at h
        ·cases h
        ·rename_i n r3 hn2
         have:=number_le hn2
         split at h
         ·cases h
         ·rw [Option.map_eq_some_iff] at h
          obtain ⟨r4,h4,h5⟩:=h
          cases h5
          omega
theorem nd_new4 (a b c d:Value):(((Tryz.zeroCells349.setIfInBounds 0 a).setIfInBounds 257 b).setIfInBounds 258 c).setIfInBounds 259 d=(a :: hasCells noHas ++ [b,c,d]).toArray:=by
 kernel_rfl
theorem nd_new2 (kind:Int) (d:Value):(Tryz.zeroCells349.setIfInBounds 0 (.int .i64 kind)).setIfInBounds 259 d=ndCells kind noHas 0 0 d:=by
 kernel_rfl
theorem piece_any (r p B:Nat) (n:Rx.Nd) (anchor:Bool) (s:Rx.Bytes) (ext fold:Bool) (w:World) (hr:Rd w r s ext fold) (hn:NdAt w B p n) (hrB:r < B) (hBw:B≤w.heap.size) :
  Calls Tryz.prog 276 #[.pointer (some ⟨r,0,none⟩),.pointer (some ⟨p,0,none⟩),.bool anchor] w fun e w'=>NodePost B r ext fold (Rx.piece ext n anchor s) e w'∧Kept (·=r) w w':=by
 have HP:Hid (∀ x,Rx.piece ext n anchor s=x→∀ e w',NodePost B r ext fold x e w'→NodePost B r ext fold (Rx.piece ext n anchor s) e w'):=by
  rintro x rfl e w' h;exact h
 generalize hpost:NodePost B r ext fold (Rx.piece ext n anchor s)=POST at HP ⊢
 clear hpost
 have G:Go1 w w r s ext fold:=⟨hr,Kept.refl _ _⟩
 have HN:Hid (∀ w',Kept (·=r) w w'→NdAt w' B p n):=fun w' hk=>hn.kept hk (fun k hk e=>by omega)
 clear hr hn
 go_enter Tryz.func276,Tryz.ntmps276
 rcases ht:Rx.times ext s with _ | ⟨_ | ⟨m,most⟩,s1⟩
 ·have hc:=G.times _ ht (fun y s' h=>by cases h)
  have HX:Hid (Rx.piece ext n anchor s=none):=by show _=_;unfold Rx.piece;rw [ht]
  go_wp2_with fail
  refine hc.mono ?_
  rintro e w' ⟨rfl,hk⟩
  clear hc ht
  go_wp2_with fail
  exact ⟨rfl,HP.out _ HX.out _ _ rfl,hk⟩
 ·have hc:=G.times _ ht (fun y s' h=>by cases h;exact times_len ht)
  have HX:Hid (Rx.piece ext n anchor s=some (n,s1)):=by show _=_;unfold Rx.piece;rw [ht]
  unfold timesVal at hc
  go_wp2_with fail
  refine hc.mono ?_
  rintro e w' ⟨rfl,G1⟩
  clear hc ht
  go_wp2_with fail
  go_ret
  exact ⟨HP.out _ HX.out _ _ ⟨p,rfl,G1.rd.at_,HN.out _ G1.kept⟩,G1.kept⟩
 ·have hc:=G.times _ ht (fun y s' h=>by cases h;exact times_len ht)
  have HX:Hid (Rx.piece ext n anchor s=match Rx.times ext s1 with
   | some (none,s2)=>if anchor then none else some (.rep m most n,s2)
   | _=>none):=by show _=_;unfold Rx.piece;rw [ht];rfl
  have HMM:=Lib.hid (times_ok ht)
  unfold timesVal at hc
  go_wp2_with fail
  refine hc.mono ?_
  rintro e w' ⟨rfl,G1⟩
  clear hc ht
  rcases ht:Rx.times ext s1 with _ | ⟨_ | ⟨m2,most2⟩,s2⟩
  ·have hc:=G1.times _ ht (fun y s' h=>by cases h)
   rw [ht] at HX
   go_wp2_with fail
   refine hc.mono ?_
   rintro e w' ⟨rfl,hk⟩
   clear hc ht
   go_wp2_with fail
   exact ⟨rfl,HP.out _ HX.out _ _ rfl,hk⟩
  ·have hc:=G1.times _ ht (fun y s' h=>by cases h;exact times_len ht)
   rw [ht] at HX
   unfold timesVal at hc
   cases anchor with
   | true=>
    go_wp2_with fail
    refine hc.mono ?_
    rintro e w' ⟨rfl,G2⟩
    clear hc ht
    go_wp2_with fail
    refine (fail_any _).mono ?_
    rintro e w3 ⟨rfl,rfl⟩
    go_wp2_with fail
    exact ⟨rfl,HP.out _ HX.out _ _ rfl,G2.kept⟩
   | false=>
    go_wp2_with fail
    refine hc.mono ?_
    rintro e w' ⟨rfl,G2⟩
    clear hc ht
    go_wp2_with fail
    rw [nd_new4]
    have hq:=Blk.new w' #[.pointer (some ⟨p,0,none⟩)] 276
    have hbl:Below w'.heap.size w' (w'.alloc (.cells #[.pointer (some ⟨p,0,none⟩)] 276)):=(Below.refl _ _).alloc (Nat.le_refl _) _
    have hsz:(w'.alloc (.cells #[.pointer (some ⟨p,0,none⟩)] 276)).heap.size=w'.heap.size+1:=by simp
    have hw':=G2.kept.size
    generalize w'.alloc (.cells #[.pointer (some ⟨p,0,none⟩)] 276)=w2 at *
    rw [← hsz]
    have hb:=Blk.new w2 (ndCells 6 noHas m most (.slice (some ⟨w'.heap.size,0,none⟩) 1 1)) 349
    have hk2:Kept (fun _=>False) w' (w2.alloc (.cells (ndCells 6 noHas m most (.slice (some ⟨w'.heap.size,0,none⟩) 1 1)) 349)):=(Kept.of_below hbl).alloc _
    have hq2:=hq.alloc (.cells (ndCells 6 noHas m most (.slice (some ⟨w'.heap.size,0,none⟩) 1 1)) 349)
    go_ret
    have hK:Kept (·=r) w _:=G2.kept.trans (hk2.mono fun _ _ h=>h.elim)
    refine ⟨HP.out _ HX.out _ _ ⟨w2.heap.size,rfl,G2.rd.at_.kept hk2 id, ?_⟩,hK⟩
    refine .rep (by omega) hb (by omega) (q:=p) ?_ (HN.out _ hK) HMM.out
    intro i hi
    obtain rfl:i=0:=by simp at hi;exact hi
    exact hq2.cell 0 rfl
  ·have hc:=G1.times _ ht (fun y s' h=>by cases h;exact times_len ht)
   rw [ht] at HX
   unfold timesVal at hc
   go_wp2_with fail
   refine hc.mono ?_
   rintro e w' ⟨rfl,G2⟩
   clear hc ht
   go_wp2_with fail
   refine (fail_any _).mono ?_
   rintro e w3 ⟨rfl,rfl⟩
   go_wp2_with fail
   exact ⟨rfl,HP.out _ HX.out _ _ rfl,G2.kept⟩
end Go.Proofs.YtefpcacnblaokaaGreatDoor.Rg

/-
  The walks of escaped, join. Condition: what is told lies in memory.
-/
set_option maxRecDepth 100000
set_option maxHeartbeats 1600000
namespace Go.Proofs.YtefpcacnblaokaaGreatDoor.Rg
open Go.RowKit Go.Shelf Go.Maps
theorem idx_contains (l:List UInt8) (c:UInt8):(0≤Lib.indexByte l c)↔l.contains c=true:=by
 induction l with
 | nil=>simp [Lib.indexByte]
 | cons b r ih=>
  have hge:=Lib.indexByte_ge r c
  unfold Lib.indexByte
  by_cases h:b=c
  ·subst h;simp
  ·have h1:(b == c)=false:=by simp [h]
   have h2:(c == b)=false:=by simp;exact fun e=>h e.symm
   simp only [List.contains_cons,h1,h2,Bool.false_or]
   rw [← ih]
   simp only [Bool.false_eq_true,if_false]
   split
   ·rename_i h3
    have:Lib.indexByte r c=-1:=by simpa using h3
    omega
   ·rename_i h3
    have:Lib.indexByte r c≠-1:=by simpa using h3
    omega
theorem NodePost.one {w0 w w':World} {B r:Nat} {s:Rx.Bytes} {ext fold:Bool} {c:UInt8} (G:Go1 w0 w r s ext fold) (hB:B≤w.heap.size)
  (hb:Blk w' w.heap.size (ndCells 1 (Rx.folds fold fun d=>d == c) 0 0 (.slice none 0 0)) 349) (hbl:Below w.heap.size w w') :
  NodePost B r ext fold (some (Rx.one fold c,s)) (.returned (.pointer (some ⟨w.heap.size,0,none⟩))) w'∧Kept (·=r) w0 w':=
 ⟨⟨w.heap.size,rfl,G.rd.at_.keep hbl G.rd.lt,.set hB hb⟩,G.kept.trans (Kept.of_below hbl)⟩
theorem indexByte_any (s:Rx.Bytes) (c:UInt8) (w:World):Calls Tryz.prog 58 #[.string ⟨s.toArray⟩,.int .u8 c.toNat] w fun e w'=>e=.returned (.int .i64 (Lib.indexByte s c))∧w'=w:=by
 refine (Any.strings_IndexByte Tryz.lays137 ⟨s.toArray⟩ c.toNat w).mono ?_
 rintro e w' ⟨rfl,rfl⟩
 refine ⟨?_,rfl⟩
 have e:((c.toNat:Int).toNat.toUInt8)=c:=by
  apply UInt8.toNat_inj.1
  simp
 rw [e]
theorem escaped_any (r:Nat) (no s:Rx.Bytes) (ext fold:Bool) (w:World) (hr:Rd w r s ext fold) :
  Calls Tryz.prog 308 #[.pointer (some ⟨r,0,none⟩),.string ⟨no.toArray⟩] w fun e w'=>NodePost w.heap.size r ext fold (Rx.escaped fold no s) e w'∧Kept (·=r) w w':=by
 have HP:Hid (∀ x,Rx.escaped fold no s=x→∀ e w',NodePost w.heap.size r ext fold x e w'→NodePost w.heap.size r ext fold (Rx.escaped fold no s) e w'):=by
  rintro x rfl e w' h;exact h
 generalize hpost:NodePost w.heap.size r ext fold (Rx.escaped fold no s)=POST at HP ⊢
 clear hpost
 have G:Go1 w w r s ext fold:=⟨hr,Kept.refl _ _⟩
 have hx:=G.next
 cases s with
 | nil=>
  have HX:Hid (Rx.escaped fold no []=none):=by show _=_;rfl
  clear hr
  go_enter Tryz.func308,Tryz.ntmps308
  go_wp2_with fail
  refine hx.mono ?_
  rintro e w' ⟨rfl,hk⟩
  go_wp2_with fail
  exact ⟨rfl,HP.out _ HX.out _ _ rfl,hk⟩
 | cons c t=>
  have ha:=fun w=>alnum_any c w
  have hi:=fun w=>indexByte_any no c w
  clear hr
  by_cases h1:Rx.alnum c=true
  ·have HX:Hid (Rx.escaped fold no (c :: t)=none):=by show _=_;unfold Rx.escaped;simp only [h1];rfl
   rw [h1] at ha
   clear h1
   go_enter Tryz.func308,Tryz.ntmps308
   go_wp2_with fail
   refine hx.mono ?_
   rintro e w' ⟨rfl,G1⟩
   go_wp2_with fail
   refine (ha _).mono ?_
   rintro e w2 ⟨rfl,rfl⟩
   go_wp2_with fail
   refine (fail_any _).mono ?_
   rintro e w2 ⟨rfl,rfl⟩
   go_wp2_with fail
   exact ⟨rfl,HP.out _ HX.out _ _ rfl,G1.kept⟩
  ·have h1:Rx.alnum c=false:=by simpa using h1
   rw [h1] at ha
   by_cases h2:(0:Int)≤Lib.indexByte no c
   ·have HX:Hid (Rx.escaped fold no (c :: t)=none):=by show _=_;simp only [Rx.escaped];rw [(idx_contains no c).1 h2];simp
    clear h1
    go_enter Tryz.func308,Tryz.ntmps308
    go_wp2_with fail
    refine hx.mono ?_
    rintro e w' ⟨rfl,G1⟩
    go_wp2_with fail
    refine (ha _).mono ?_
    rintro e w2 ⟨rfl,rfl⟩
    go_wp2_with fail
    refine (hi _).mono ?_
    rintro e w2 ⟨rfl,rfl⟩
    go_wp2_with fail
    refine (fail_any _).mono ?_
    rintro e w3 ⟨rfl,rfl⟩
    go_wp2_with fail
    exact ⟨rfl,HP.out _ HX.out _ _ rfl,G1.kept⟩
   ·have HX:Hid (Rx.escaped fold no (c :: t)=some (Rx.one fold c,t)):=by
     show _=_;simp only [Rx.escaped]
     have:no.contains c=false:=by simpa using fun h=>h2 ((idx_contains no c).2 (by simpa using h))
     rw [this,h1];rfl
    clear h1
    go_enter Tryz.func308,Tryz.ntmps308
    go_wp2_with fail
    refine hx.mono ?_
    rintro e w' ⟨rfl,G1⟩
    go_wp2_with fail
    refine (ha _).mono ?_
    rintro e w2 ⟨rfl,rfl⟩
    go_wp2_with fail
    refine (hi _).mono ?_
    rintro e w2 ⟨rfl,rfl⟩
    go_wp2_with fail
    refine (one_any r c t ext fold _ G1.rd.at_).mono ?_
    rintro e w3 ⟨rfl,hb,hbl⟩
    go_wp2_with fail
    go_ret
    have:=NodePost.one (B:=w.heap.size) G1 G1.kept.size hb hbl
    exact ⟨HP.out _ HX.out _ _ this.1,this.2⟩
def ptrV (p:Nat):Value:=.pointer (some ⟨p,0,none⟩)
structure NdsAt (w:World) (B:Nat) (v:Value) (l:List Rx.Nd) (ps:List Nat):Prop where
 len:ps.length=l.length
 none_:l=[]→v=.slice none 0 0
 own:w.ownsRow B 276 1 v ps.length (ps.map ptrV)
 nd:∀ i,i < l.length→NdIn w (fun b=>B≤b∧v.ownBlock≠some b) (ps.getD i 0) (l.getD i .empty)
theorem NdsAt.nil (w:World) (B:Nat):NdsAt w B (.slice none 0 0) [] []:=⟨rfl,fun _=>rfl,World.ownsRow_nil _ _ _ _,fun i hi=>absurd hi (Nat.not_lt_zero i)⟩
theorem NdsAt.kept {S:Nat→Prop} {w w':World} {B:Nat} {v:Value} {l:List Rx.Nd} {ps:List Nat} (h:NdsAt w B v l ps) (hk:Kept S w w') (hS:∀ k,B≤k→¬ S k):NdsAt w' B v l ps:=by
 refine ⟨h.len,h.none_, ?_,fun i hi=>(h.nd i hi).kept hk fun k hk=>hS k hk.1⟩
 obtain ⟨h1,h2 | ⟨g,cap,cur,e,hg,hb,r⟩⟩:=h.own
 ·exact ⟨h1,.inl h2⟩
 ·exact ⟨h1,.inr ⟨g,cap,cur,e,hg,(hk.block g (lt_of_block hb) (hS g hg)).trans hb,r⟩⟩
theorem NdsAt.ex {w:World} {B:Nat} {v:Value} {l:List Rx.Nd} {ps:List Nat} (h:NdsAt w B v l ps):(l=[]∧v=.slice none 0 0)∨∃ (k c:Nat),v=.slice (some ⟨k,0,none⟩) l.length c∧l.length≤c∧0 < l.length∧B≤k∧Ptrs w k ps∧∀ i,i < l.length→NdAt w B (ps.getD i 0) (l.getD i .empty):=by
 have hl:=h.len
 cases l with
 | nil=>exact .inl ⟨rfl,h.none_ rfl⟩
 | cons x t=>
  right
  have ho:=h.own
  rcases ho.2 with ⟨-,h2⟩ | ⟨g,cap,cur,e,hg,hb,hc,hm,hs,ht⟩
  ·rw [hl] at h2;simp at h2
  ·refine ⟨g,cap,by rw [e,hl],by omega,by simp,hg, ?_,fun i hi=>(h.nd i hi).mono fun k hk=>hk.1⟩
   intro i hi
   have:=ho.cells (g:=g) (by rw [e];rfl) i (ptrV (ps.getD i 0)) (by simp [List.getD_eq_getElem?_getD,List.getElem?_eq_getElem hi])
   rw [show ((⟨g,0,none⟩:Addr).add i)=⟨g,i,none⟩ by simp only [Addr.add];split <;> simp_all] at this
   exact this
theorem NdsAt.push {w w1:World} {B q:Nat} {v v':Value} {l:List Rx.Nd} {n:Rx.Nd} {ps:List Nat} {o:Obj} (h:NdsAt w B v l ps) (hn:NdIn w (fun b=>B≤b∧v.ownBlock≠some b) q n)
  (hown:w1.ownsRow B 276 1 v' (ps.length+1) (ps.map ptrV ++ [ptrV q])) (hg:(w.alloc o).grownBy w1 v.ownBlock) (hv:v'.ownBlock=v.ownBlock∨v'.ownBlock=some (w.alloc o).heap.size):NdsAt w1 B v' (l ++ [n]) (ps ++ [q]):=by
 have hl:=h.len
 have hk:Kept (fun b=>v.ownBlock=some b) (w.alloc o) w1:=⟨hg.os,hg.tape,hg.output,hg.size,fun k hk hs=>hg.block k hk (fun e=>hs e.symm)⟩
 have hk0:Kept (fun _=>False) w (w.alloc o):=(Kept.refl _ _).alloc _
 have mv:∀ {p:Nat} {x:Rx.Nd},NdIn w (fun b=>B≤b∧v.ownBlock≠some b) p x→NdIn w1 (fun b=>B≤b∧v'.ownBlock≠some b) p x:=by
  intro p x hx
  refine ((hx.lt.kept hk0 fun _ _ h=>h).kept hk fun k hk hs=>hk.1.2 hs).mono fun k hk=>⟨hk.1.1,fun e=>?_⟩
  rcases hv with hv | hv
  ·exact hk.1.2 (hv ▸ e)
  ·rw [hv] at e
   have:=Option.some.inj e
   have h2:(w.alloc o).heap.size=w.heap.size+1:=by simp
   have:=hk.2
   omega
 refine ⟨by simp [hl],fun e=>by simp at e,by simpa using hown,fun i hi=>?_⟩
 rcases Nat.lt_or_ge i l.length with h1 | h1
 ·have e1:(ps ++ [q]).getD i 0=ps.getD i 0:=by simp [List.getD_eq_getElem?_getD,List.getElem?_append_left (show i < ps.length by omega)]
  have e2:(l ++ [n]).getD i .empty=l.getD i .empty:=by simp [List.getD_eq_getElem?_getD,List.getElem?_append_left h1]
  rw [e1,e2]
  exact mv (h.nd i h1)
 ·simp at hi
  obtain rfl:i=l.length:=by omega
  have e1:(ps ++ [q]).getD l.length 0=q:=by rw [← hl];simp [List.getD_eq_getElem?_getD]
  have e2:(l ++ [n]).getD l.length .empty=n:=by simp [List.getD_eq_getElem?_getD]
  rw [e1,e2]
  exact mv hn
theorem Kept.pushed {S:Nat→Prop} {w0 w w1:World} {o:Obj} {v:Value} (h:Kept S w0 w) (hg:(w.alloc o).grownBy w1 v.ownBlock) (hv:∀ k,v.ownBlock=some k→w0.heap.size≤k):Kept S w0 w1:=by
 have hk:Kept (fun b=>v.ownBlock=some b) (w.alloc o) w1:=⟨hg.os,hg.tape,hg.output,hg.size,fun k hk hs=>hg.block k hk (fun e=>hs e.symm)⟩
 exact (h.alloc o).trans' hk fun k hk e=>absurd (hv k e) (by omega)
inductive Kind2:Int→(List Rx.Nd→Rx.Nd)→Prop
 | cat:Kind2 4 .cat
 | alt:Kind2 5 .alt
theorem join_any (kind:Int) (mk:List Rx.Nd→Rx.Nd) (hk:Kind2 kind mk) (v:Value) (l:List Rx.Nd) (ps:List Nat) (B:Nat) (w:World) (h:NdsAt w B v l ps) (hB:B≤w.heap.size) (hl:l.length≤1073741824) :
  Calls Tryz.prog 274 #[.int .i64 kind,v] w fun e w'=>(∃ p,e=.returned (.pointer (some ⟨p,0,none⟩))∧NdAt w' B p (Rx.joinN mk l))∧Below w.heap.size w w':=by
 have hpl:=h.len
 rcases h.ex with ⟨rfl,rfl⟩ | ⟨k,c,rfl,hc,hpos,hBk,hps,hn⟩
 ·go_enter Tryz.func274,Tryz.ntmps274
  go_wp2_with fail
  rw [nd_new]
  go_ret
  exact ⟨⟨w.heap.size,rfl,.empty hB (Blk.new _ _ _)⟩,(Below.refl _ _).alloc (Nat.le_refl _) _⟩
 ·rcases l with _ | ⟨x,_ | ⟨y,t⟩⟩
  ·simp at hpos
  ·obtain ⟨q,rfl⟩:∃ q,ps=[q]:=by
    rcases ps with _ | ⟨q,_ | ⟨q2,u⟩⟩
    ·simp at hpl
    ·exact ⟨q,rfl⟩
    ·simp at hpl
   have h0:w.cell? ⟨k,0,none⟩=some (.pointer (some ⟨q,0,none⟩)):=hps 0 (by simp)
   have h1:NdAt w B q x:=hn 0 (by simp)
   have H:=Lib.hid h1
   clear hps hn h1
   go_enter Tryz.func274,Tryz.ntmps274
   go_wp2_with fail
   go_ret
   exact ⟨⟨_,rfl,H.out⟩,Below.refl _ _⟩
  ·have HPS:=Lib.hid hps
   have HN:=Lib.hid hn
   have hd0:¬ ((t.length:Int)+1+1=0):=by omega
   have hd1:¬ ((t.length:Int)+1+1=1):=by omega
   clear hps hn
   go_enter Tryz.func274,Tryz.ntmps274
   go_wp2_with fail
   rw [nd_new2]
   go_ret
   have hK:Kept (fun _=>False) w (w.alloc (.cells (ndCells kind noHas 0 0 (.slice (some ⟨k,0,none⟩) (t.length+1+1) c)) 349)):=(Kept.refl _ _).alloc _
   have hb:=Blk.new w (ndCells kind noHas 0 0 (.slice (some ⟨k,0,none⟩) (t.length+1+1) c)) 349
   refine ⟨⟨w.heap.size,rfl, ?_⟩,hK.below⟩
   have hps2:=HPS.out.kept hK id
   have hn2:=fun i hi=>(HN.out i hi).kept hK (fun _ _ h=>h.elim)
   cases hk with
   | cat=>exact .cat hB hb (by simp) ⟨hc,hl⟩ hBk hpl hps2 hn2
   | alt=>exact .alt hB hb (by simp) ⟨hc,hl⟩ hBk hpl hps2 hn2
end Go.Proofs.YtefpcacnblaokaaGreatDoor.Rg
