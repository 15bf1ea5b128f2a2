/-
  Texts of this seat put together: GW5, GW6, GW7, GW8.
-/
import Derived.Test.YtefpcacnblaokaaGreatDoorQ11
import Derived.Maps.OwnSet
import Derived.ChangeMaps
import Derived.Deep.QuietTactic
import Derived.BigQuiet
import Derived.Shelf.Strings.Prefix
import Derived.Lib.IndexMore
import Derived.Maps.OwnOps
import Derived.Lib.LaidTab
import Derived.Shelf.Strconv.Itoa4
import Derived.Deep.RegionWith
import Derived.Laws.EntriesVeiled

/-
  The walks of classes, named. Condition: what is told lies in memory.
-/
set_option maxRecDepth 100000
set_option maxHeartbeats 1600000
namespace Go.Proofs.YtefpcacnblaokaaGreatDoor.Rg
open Go.RowKit Go.Shelf Go.Maps
def clsFn (n:Nat):Value:=.agg #[.func (.func n) #[] #[]]
def clsList:List Value→Option (DataW Unit × List MemPlace)
 | [.func (.func n) a b]=>if a=#[]∧b=#[] then some (.lit (.int .i64 n),[]) else none
 | [.nilFunc]=>some (.lit (.int .i64 (-1)),[])
 | _=>none
def clsElem:Value→Option (DataW Unit × List MemPlace)
 | .agg cs=>clsList cs.toList
 | _=>none
theorem clsElem_fn (n:Nat):clsElem (clsFn n)=some (.lit (.int .i64 n),[]):=rfl
theorem clsElem_inv {v:Value} {n:Nat} {ps:List MemPlace} (h:clsElem v=some (.lit (.int .i64 n),ps)):v=clsFn n:=by
 unfold clsElem at h
 split at h
 ·rename_i cs
  unfold clsList at h
  split at h
  ·rename_i e
   split at h
   ·rename_i hs
    obtain ⟨rfl,rfl⟩:=hs
    simp only [Option.some.injEq,Prod.mk.injEq,DataW.lit.injEq,Lit.int.injEq,true_and] at h
    obtain ⟨h1,-⟩:=h
    obtain rfl:=Int.ofNat.inj h1
    exact congrArg Value.agg (Array.toList_inj.1 e)
   ·cases h
  ·simp only [Option.some.injEq,Prod.mk.injEq,DataW.lit.injEq,Lit.int.injEq,true_and] at h
   omega
  ·cases h
 ·cases h
def clsData:DataW Unit:=
 let put (n:List UInt8) (f:Nat) (D:DataW Unit):DataW Unit:=D.put (.string n) (.lit (.int .i64 f))
 put [120,100,105,103,105,116] 376 <| put [112,117,110,99,116] 375 <|
 put [112,114,105,110,116] 374 <| put [99,110,116,114,108] 373 <|
 put [115,112,97,99,101] 372 <| put [98,108,97,110,107] 371 <|
 put [108,111,119,101,114] 370 <| put [117,112,112,101,114] 369 <|
 put [103,114,97,112,104] 368 <| put [97,108,110,117,109] 336 <|
 put [100,105,103,105,116] 353 <| put [97,108,112,104,97] 352 <| .map []
theorem kStr:Keyed Tryz.prog 9:=Maps.string_keyed Tryz.underlying9
theorem grown_below {b B:Nat} {w w':World} (h:w.grownBy w' (some b)) (hb:B≤b) (hw:B≤w.heap.size):Below B w w':=
 ⟨h.os,h.tape,h.output,h.size,fun k hk=>h.block k (by omega) (by simp;omega)⟩
theorem classes_any (w:World):Calls Tryz.prog 364 #[] w fun e w'=>e=.returned (.map (some w.heap.size))∧w'.ownsMap Tryz.prog 9 clsElem w.heap.size 12 clsData∧Below w.heap.size w w':=by
 have hmm:=@run_makeMap Tryz.prog
 have st:=fun (W:World) (n:Nat) (D:DataW Unit) (h:W.ownsMap Tryz.prog 9 clsElem w.heap.size n D) (hn:n < maxLen) (key:List UInt8) (f:Nat) (hk:key.length≤maxLen)=>
  World.ownsMap.update h kStr (t:=454) Tryz.underlying454 hn (key:=.string ⟨key.toArray⟩) (val:=.agg #[.func (.func f) #[] #[]]) (kl:=.string key) (Go.WideMaps.keyOf_string_mk Tryz.underlying9 (by simpa [ByteArray.size] using hk)) (clsElem_fn f)
 have o0:=World.ownsMap_made w Tryz.prog 9 clsElem
 obtain ⟨w1,e1,o1,g1⟩:=st _ 0 _ o0 (by decide) [97,108,112,104,97] 352 (by decide)
 obtain ⟨w2,e2,o2,g2⟩:=st _ 1 _ o1 (by decide) [100,105,103,105,116] 353 (by decide)
 obtain ⟨w3,e3,o3,g3⟩:=st _ 2 _ o2 (by decide) [97,108,110,117,109] 336 (by decide)
 obtain ⟨w4,e4,o4,g4⟩:=st _ 3 _ o3 (by decide) [103,114,97,112,104] 368 (by decide)
 obtain ⟨w5,e5,o5,g5⟩:=st _ 4 _ o4 (by decide) [117,112,112,101,114] 369 (by decide)
 obtain ⟨w6,e6,o6,g6⟩:=st _ 5 _ o5 (by decide) [108,111,119,101,114] 370 (by decide)
 obtain ⟨w7,e7,o7,g7⟩:=st _ 6 _ o6 (by decide) [98,108,97,110,107] 371 (by decide)
 obtain ⟨w8,e8,o8,g8⟩:=st _ 7 _ o7 (by decide) [115,112,97,99,101] 372 (by decide)
 obtain ⟨w9,e9,o9,g9⟩:=st _ 8 _ o8 (by decide) [99,110,116,114,108] 373 (by decide)
 obtain ⟨w10,e10,o10,g10⟩:=st _ 9 _ o9 (by decide) [112,114,105,110,116] 374 (by decide)
 obtain ⟨w11,e11,o11,g11⟩:=st _ 10 _ o10 (by decide) [112,117,110,99,116] 375 (by decide)
 obtain ⟨w12,e12,o12,g12⟩:=st _ 11 _ o11 (by decide) [120,100,105,103,105,116] 376 (by decide)
 have HO:=Lib.hid o12
 have HB:Hid (Below w.heap.size w w12):=by
  have h0:Below w.heap.size w (w.alloc (.map #[] 0)):=(Below.refl _ _).alloc (Nat.le_refl _) _
  show Below _ _ _
  have t:=fun {W W':World} (h:Below w.heap.size w W) (g:W.grownBy W' (some w.heap.size))=>h.trans (grown_below g (Nat.le_refl _) h.size)
  exact t (t (t (t (t (t (t (t (t (t (t (t h0 g1) g2) g3) g4) g5) g6) g7) g8) g9) g10) g11) g12
 clear st o0 o1 g1 o2 g2 o3 g3 o4 g4 o5 g5 o6 g6 o7 g7 o8 g8 o9 g9 o10 g10 o11 g11 o12 g12
 go_enter Tryz.func364,Tryz.ntmps364
 go_wp2_with fail
 go_ret
 exact ⟨rfl,HO.out,HB.out⟩
def ClsLook (name:List UInt8) (z:DataW Unit):Option Rx.Has→Prop
 | none=>Maps.has clsData (.string name)=false∧clsData.atKey (.string name) z=z
 | some k=>Maps.has clsData (.string name)=true∧∃ n:Nat,clsData.atKey (.string name) z=.lit (.int .i64 n)∧(∀ args w,(callFunc n args).run Tryz.prog w=.ok (.enter n args) w)∧∀ (c:UInt8) (w:World),Calls Tryz.prog n #[.int .u8 c.toNat] w fun e w'=>e=.returned (.bool (k c))∧w=w'
theorem cls_look (name:List UInt8) (z:DataW Unit):ClsLook name z (Rx.classOf name):=by
 by_cases h0:name=[97,108,112,104,97]
 ·subst h0
  exact ⟨rfl,352,rfl,fun args w=>rfl,fun c w=>letter_any c w⟩
 by_cases h1:name=[100,105,103,105,116]
 ·subst h1
  exact ⟨rfl,353,rfl,fun args w=>rfl,fun c w=>digit_any c w⟩
 by_cases h2:name=[97,108,110,117,109]
 ·subst h2
  exact ⟨rfl,336,rfl,fun args w=>rfl,fun c w=>alnum_any c w⟩
 by_cases h3:name=[103,114,97,112,104]
 ·subst h3
  exact ⟨rfl,368,rfl,fun args w=>rfl,fun c w=>graph_any c w⟩
 by_cases h4:name=[117,112,112,101,114]
 ·subst h4
  exact ⟨rfl,369,rfl,fun args w=>rfl,fun c w=>upper_any c w⟩
 by_cases h5:name=[108,111,119,101,114]
 ·subst h5
  exact ⟨rfl,370,rfl,fun args w=>rfl,fun c w=>lower_any c w⟩
 by_cases h6:name=[98,108,97,110,107]
 ·subst h6
  exact ⟨rfl,371,rfl,fun args w=>rfl,fun c w=>blank_any c w⟩
 by_cases h7:name=[115,112,97,99,101]
 ·subst h7
  exact ⟨rfl,372,rfl,fun args w=>rfl,fun c w=>space_any c w⟩
 by_cases h8:name=[99,110,116,114,108]
 ·subst h8
  exact ⟨rfl,373,rfl,fun args w=>rfl,fun c w=>cntrl_any c w⟩
 by_cases h9:name=[112,114,105,110,116]
 ·subst h9
  exact ⟨rfl,374,rfl,fun args w=>rfl,fun c w=>print_any c w⟩
 by_cases h10:name=[112,117,110,99,116]
 ·subst h10
  exact ⟨rfl,375,rfl,fun args w=>rfl,fun c w=>punct_any c w⟩
 by_cases h11:name=[120,100,105,103,105,116]
 ·subst h11
  exact ⟨rfl,376,rfl,fun args w=>rfl,fun c w=>xdigit_any c w⟩
 have e:Rx.classOf name=none:=by
  unfold Rx.classOf
  rw [if_neg h0,if_neg h1,if_neg h2,if_neg h3,if_neg h4,if_neg h5,if_neg h6,if_neg h7,if_neg h8,if_neg h9,if_neg h10,if_neg h11]
 rw [e]
 have ne:∀ {l:List UInt8},¬ name=l→Lit.string name≠Lit.string l:=fun h h2=>h (Lit.string.inj h2)
 show Maps.has clsData (.string name)=false∧clsData.atKey (.string name) z=z
 unfold clsData
 simp only []
 constructor
 ·rw [Maps.has_put_other (ne h11),Maps.has_put_other (ne h10),Maps.has_put_other (ne h9),Maps.has_put_other (ne h8),Maps.has_put_other (ne h7),Maps.has_put_other (ne h6),Maps.has_put_other (ne h5),Maps.has_put_other (ne h4),Maps.has_put_other (ne h3),Maps.has_put_other (ne h2),Maps.has_put_other (ne h1),Maps.has_put_other (ne h0)]
  rfl
 ·rw [Maps.atKey_put_other (ne h11),Maps.atKey_put_other (ne h10),Maps.atKey_put_other (ne h9),Maps.atKey_put_other (ne h8),Maps.atKey_put_other (ne h7),Maps.atKey_put_other (ne h6),Maps.atKey_put_other (ne h5),Maps.atKey_put_other (ne h4),Maps.atKey_put_other (ne h3),Maps.atKey_put_other (ne h2),Maps.atKey_put_other (ne h1),Maps.atKey_put_other (ne h0)]
  rfl
theorem clsElem_nil {v:Value} {ps:List MemPlace} (h:clsElem v=some (.lit (.int .i64 (-1)),ps)):v=.agg #[.nilFunc]:=by
 unfold clsElem at h
 split at h
 ·rename_i cs
  unfold clsList at h
  split at h
  ·split at h
   ·simp only [Option.some.injEq,Prod.mk.injEq,DataW.lit.injEq,Lit.int.injEq,true_and] at h
    omega
   ·cases h
  ·rename_i e
   exact congrArg Value.agg (Array.toList_inj.1 e)
  ·cases h
 ·cases h
end Go.Proofs.YtefpcacnblaokaaGreatDoor.Rg

/-
  A reader with the library's variables; the walks of named, class. Condition: what is told lies in memory.
-/
set_option maxHeartbeats 1600000
namespace Go.Proofs.YtefpcacnblaokaaGreatDoor.Rg
open Go.RowKit Go.Shelf Go.Maps
theorem hasPrefix_any (s p:Rx.Bytes) (w:World):Calls Tryz.prog 91 #[.string ⟨s.toArray⟩,.string ⟨p.toArray⟩] w fun e w'=>e=.returned (.bool (p.isPrefixOf s))∧w'=w:=
 Any.strings_HasPrefix Tryz.lays99 ⟨s.toArray⟩ ⟨p.toArray⟩ w
theorem cat2 (a b:Rx.Bytes):(⟨a.toArray⟩:ByteArray) ++ ⟨b.toArray⟩=⟨(a ++ b).toArray⟩:=by
 apply ByteArray.ext;simp
def NamedPost (r:Nat) (k:UInt8) (s:Rx.Bytes) (ext fold:Bool) (e:Ending) (w':World):Prop:=match Rx.named k s with
 | some (c,s')=>e=.returned (.tuple #[.int .u8 c.toNat,.bool true])∧RdAt w' r s' ext fold
 | none=>e=.returned (.tuple #[.int .u8 0,.bool false])∧RdAt w' r s ext fold
theorem named_short {k:UInt8} {s:Rx.Bytes} (h:s.length < 5):Rx.named k s=none:=by
 unfold Rx.named
 split
 ·simp at h;omega
 ·rfl
theorem named_any (r:Nat) (k:UInt8) (s:Rx.Bytes) (ext fold:Bool) (w:World) (h:RdAt w r s ext fold) :
  Calls Tryz.prog 351 #[.pointer (some ⟨r,0,none⟩),.string ⟨#[k]⟩] w fun e w'=>NamedPost r k s ext fold e w'∧Kept (·=r) w w':=by
 have c0:w.cell? ⟨r,0,none⟩=some (.string ⟨s.toArray⟩):=Blk.cell h 0 rfl
 have f0:=h.free 0
 have hp:=hasPrefix_any s [91,k]
 have e1:(⟨#[91]⟩:ByteArray) ++ ⟨#[k]⟩=⟨[91,k].toArray⟩:=cat2 [91] [k]
 have e2:(⟨#[k]⟩:ByteArray) ++ ⟨#[93]⟩=⟨[k,93].toArray⟩:=cat2 [k] [93]
 by_cases h5:s.length < 5
 ·have HN:=Lib.hid (named_short (k:=k) h5)
  have hd:decide ((5:Int)≤(s.length:Int))=false:=by simp;omega
  clear e2 hp
  go_enter Tryz.func351,Tryz.ntmps351
  go_wp2_with fail
  go_ret2
  unfold NamedPost
  rw [HN.out]
  exact ⟨⟨rfl,h⟩,Kept.refl _ _⟩
 ·obtain ⟨a,b,c,d,x,t,rfl⟩:∃ a b c d x t,s=a :: b :: c :: d :: x :: t:=by
   rcases s with _|⟨a,_|⟨b,_|⟨c,_|⟨d,_|⟨x,t⟩⟩⟩⟩⟩ <;> simp at h5 <;> first | omega | exact ⟨_,_,_,_,_,_,rfl⟩
  clear h5
  have hd:decide ((5:Int)≤(t.length:Int)+1+1+1+1+1)=true:=by simp;omega
  by_cases h1:a=91∧b=k
  ·have hpt:([91,k]:Rx.Bytes).isPrefixOf (a :: b :: c :: d :: x :: t)=true:=by obtain ⟨rfl,rfl⟩:=h1;simp
   rw [hpt] at hp
   have e3:(⟨(a :: b :: c :: d :: x :: t).toArray⟩:ByteArray).extract 3 5=⟨#[d,x]⟩:=by apply ByteArray.ext;simp [ByteArray.data_extract]
   have e4:(⟨#[d,x]⟩:ByteArray).toList=[d,x]:=ByteArray.toList_mk [d,x]
   by_cases h2:d=k∧x=93
   ·have HN:Hid (Rx.named k (a :: b :: c :: d :: x :: t)=some (c,t)):=by show _=_;obtain ⟨rfl,rfl⟩:=h1;obtain ⟨rfl,rfl⟩:=h2;simp [Rx.named]
    have h3:(d == k)=true:=by simp [h2.1]
    have h4:(x == 93)=true:=by simp [h2.2]
    have e5:(⟨(a :: b :: c :: d :: x :: t).toArray⟩:ByteArray).extract 5 (t.length+1+1+1+1+1)=⟨t.toArray⟩:=extract_drop (a :: b :: c :: d :: x :: t) 5
    have E5:=Lib.hid e5
    have HS:=Lib.hid (h.set 0 (.string ⟨t.toArray⟩))
    clear h1 h2 hpt e5
    go_enter Tryz.func351,Tryz.ntmps351
    go_wp2_with fail
    refine (hp _).mono ?_
    rintro e w' ⟨rfl,rfl⟩
    go_wp2_with fail
    go_ret2
    unfold NamedPost
    rw [HN.out]
    refine ⟨⟨rfl, ?_⟩,(Kept.refl (·=r) _).setCell (.inl rfl) 0 _⟩
    rw [E5.out]
    exact HS.out
   ·have HN:Hid (Rx.named k (a :: b :: c :: d :: x :: t)=none):=by
     show _=_
     simp only [Rx.named]
     rw [if_neg (fun h=>h2 ⟨h.2.2.1,h.2.2.2⟩)]
    have h3:((d == k) && (x == 93))=false:=by
     rw [Bool.eq_false_iff];intro h;apply h2;simpa using h
    clear h1 h2 hpt
    go_enter Tryz.func351,Tryz.ntmps351
    go_wp2_with fail
    refine (hp _).mono ?_
    rintro e w' ⟨rfl,rfl⟩
    go_wp2_with fail
    go_ret2
    unfold NamedPost
    rw [HN.out]
    exact ⟨⟨rfl,h⟩,Kept.refl _ _⟩
  ·have HN:Hid (Rx.named k (a :: b :: c :: d :: x :: t)=none):=by
    show _=_
    simp only [Rx.named]
    rw [if_neg (fun h=>h1 ⟨h.1,h.2.1⟩)]
   have hpt:([91,k]:Rx.Bytes).isPrefixOf (a :: b :: c :: d :: x :: t)=false:=by
    rw [Bool.eq_false_iff];intro h;apply h1
    simp at h
    exact ⟨h.1.symm,h.2.symm⟩
   rw [hpt] at hp
   clear h1 hpt
   go_enter Tryz.func351,Tryz.ntmps351
   go_wp2_with fail
   refine (hp _).mono ?_
   rintro e w' ⟨rfl,rfl⟩
   go_wp2_with fail
   go_ret2
   unfold NamedPost
   rw [HN.out]
   exact ⟨⟨rfl,h⟩,Kept.refl _ _⟩
structure Glo (w:World):Prop where
 syn:∃ tp p,w.var? Tryz.prog "strconv.ErrSyntax"=some #[.iface tp p]
 rng:∃ tp p,w.var? Tryz.prog "strconv.ErrRange"=some #[.iface tp p]
 mx:∃ m,w.cell? ⟨2,0,none⟩=some (.int .i64 m)
 tab:Lib.TabIs Tryz.prog w "internal/strconv.uint64pow10" .u64 Lib.pow10Tab
theorem gSyn:Tryz.prog.globalNamed "strconv.ErrSyntax"=some 4:=by kernel_rfl
theorem gPow:Tryz.prog.globalNamed "internal/strconv.uint64pow10"=some 3:=by kernel_rfl
theorem gRng:Tryz.prog.globalNamed "strconv.ErrRange"=some 5:=by kernel_rfl
theorem var?_same {P:Program} {g:Nat} {W W':World} {n:String} {cs:Array Value} (h:W'.heap[g]?=W.heap[g]?) (hg:P.globalNamed n=some g) (hv:W.var? P n=some cs):W'.var? P n=some cs:=by
 unfold World.var? at hv ⊢
 simp only [hg,Option.bind_some] at hv ⊢
 rw [h]
 exact hv
theorem Glo.kept {S:Nat→Prop} {w w':World} (h:Glo w) (hk:Kept S w w') (hS:∀ k,S k→8≤k) (h8:8≤w.heap.size):Glo w':=by
 obtain ⟨⟨t1,p1,h1⟩,⟨t2,p2,h2⟩,⟨m,h3⟩,h4⟩:=h
 have hb:∀ g,g < 8→w'.heap[g]?=w.heap[g]?:=fun g hg=>hk.block g (by omega) (fun hs=>absurd (hS g hs) (by omega))
 refine ⟨⟨t1,p1,var?_same (hb _ (by decide)) gSyn h1⟩,⟨t2,p2,var?_same (hb _ (by decide)) gRng h2⟩,⟨m, ?_⟩, ?_⟩
 ·have:=hb 2 (by decide)
  unfold World.cell? at h3 ⊢
  simp only [this]
  exact h3
 ·exact var?_same (hb _ (by decide)) gPow h4
structure Rd (w:World) (r:Nat) (s:Rx.Bytes) (ext fold:Bool):Prop where
 at_:RdAt w r s ext fold
 glo:Glo w
 hr:8≤r
 len:s.length < 1073741824
theorem Rd.lt {w:World} {r:Nat} {s:Rx.Bytes} {ext fold:Bool} (h:Rd w r s ext fold):r < w.heap.size:=h.at_.lt
theorem Rd.next {w w':World} {r:Nat} {s s':Rx.Bytes} {ext fold:Bool} (h:Rd w r s ext fold) {S:Nat→Prop} (hk:Kept S w w') (hS:∀ k,S k→8≤k) (h':RdAt w' r s' ext fold) (hl:s'.length≤s.length):Rd w' r s' ext fold:=
 ⟨h',h.glo.kept hk hS (by have:=h.hr;have:=h.lt;omega),h.hr,Nat.lt_of_le_of_lt hl h.len⟩
theorem Rd.self {w w':World} {r:Nat} {s s':Rx.Bytes} {ext fold:Bool} (h:Rd w r s ext fold) (hk:Kept (·=r) w w') (h':RdAt w' r s' ext fold) (hl:s'.length≤s.length):Rd w' r s' ext fold:=
 h.next hk (fun _ e=>e ▸ h.hr) h' hl
end Go.Proofs.YtefpcacnblaokaaGreatDoor.Rg

/-
  The walk of class. Condition: what is told lies in memory.
-/
set_option maxRecDepth 100000
set_option maxHeartbeats 1600000
namespace Go.Proofs.YtefpcacnblaokaaGreatDoor.Rg
open Go.RowKit Go.Shelf Go.Maps
theorem Kept.drewN {S:Nat→Prop} {w w':World} (h:Kept S w w') (n:Nat):Kept S w (w'.drewN n):=⟨h.os,h.tape,h.output,h.size,h.block⟩
theorem cut_shut (t:Rx.Bytes):(0≤Lib.index t [58,93]∧Rx.cutShut t=some (t.take (Lib.index t [58,93]).toNat,t.drop ((Lib.index t [58,93]).toNat+2)))∨(Lib.index t [58,93]=-1∧Rx.cutShut t=none):=by
 induction t with
 | nil=>right;exact ⟨rfl,rfl⟩
 | cons c r ih=>
  by_cases hc:c=58∧r.head?=some 93
  ·left
   have hi:Lib.index (c :: r) [58,93]=0:=by
    obtain ⟨rfl,h2⟩:=hc
    cases r with
    | nil=>cases h2
    | cons d q=>simp at h2;subst h2;simp [Lib.index]
   rw [hi]
   refine ⟨Int.le_refl _, ?_⟩
   simp only [Rx.cutShut]
   rw [if_pos hc]
   simp
  ·have hp:([58,93]:List UInt8).isPrefixOf (c :: r)=false:=by
    rw [Bool.eq_false_iff];intro h;apply hc
    cases r with
    | nil=>simp at h
    | cons d q=>simp at h;exact ⟨h.1.symm,by simp [h.2]⟩
   have hx:Rx.cutShut (c :: r)=(Rx.cutShut r).map fun x=>(c :: x.1,x.2):=by simp only [Rx.cutShut];rw [if_neg hc]
   have hi:Lib.index (c :: r) [58,93]=if Lib.index r [58,93] == -1 then -1 else Lib.index r [58,93]+1:=by
    rw [Lib.index,if_neg (by rw [hp];decide)]
   rcases ih with ⟨h1,h2⟩ | ⟨h1,h2⟩
   ·left
    have hne:(Lib.index r [58,93] == -1)=false:=by rw [beq_eq_false_iff_ne];omega
    rw [hi,hne]
    simp only [Bool.false_eq_true,if_false]
    refine ⟨by omega, ?_⟩
    rw [hx,h2]
    have e:(Lib.index r [58,93]+1).toNat=(Lib.index r [58,93]).toNat+1:=by omega
    rw [e]
    simp
   ·right
    rw [hi,h1,hx,h2]
    exact ⟨rfl,rfl⟩
def cutVal (t:Rx.Bytes):Value:=match Rx.cutShut t with
 | some (a,b)=>.tuple #[.string ⟨a.toArray⟩,.string ⟨b.toArray⟩,.bool true]
 | none=>.tuple #[.string ⟨t.toArray⟩,.string ⟨#[]⟩,.bool false]
theorem cut_any (t:Rx.Bytes) (hl:t.length < 1073741824) (w:World) (hg:Glo w) :
  Calls Tryz.prog 363 #[.string ⟨t.toArray⟩,.string ⟨#[58,93]⟩] w fun e w'=>e=.returned (cutVal t)∧∃ n,w'=w.drewN n:=by
 obtain ⟨m,hm⟩:=hg.mx
 refine (Any.strings_Cut Tryz.lays145 ⟨t.toArray⟩ ⟨#[58,93]⟩ m w (by simp [ByteArray.size];omega) hm).mono ?_
 rintro e w' ⟨rfl,h⟩
 refine ⟨?_,h⟩
 unfold cutVal Lib.cut
 rcases cut_shut t with ⟨h1,h2⟩ | ⟨h1,h2⟩
 ·rw [h2]
  simp only []
  rw [if_pos h1]
  rfl
 ·rw [h2,h1]
  rfl
theorem zero_class (w:World):(zeroValue 452).run Tryz.prog w=.ok (.agg #[.nilFunc]) w:=by kernel_rfl
abbrev setCells (h:Rx.Has):Array Value:=ndCells 1 h 0 0 (.slice none 0 0)
theorem cls_step (h k:Rx.Has) (j:Nat) (hj:j < 256):(fun c:UInt8=>if c.toNat=j then (h (UInt8.ofNat j) || k (UInt8.ofNat j)) else if c.toNat < j then h c || k c else h c)=fun c=>if c.toNat < j+1 then h c || k c else h c:=by
 funext c
 have ej:(UInt8.ofNat j).toNat=j:=by simp [UInt8.toNat_ofNat'];omega
 by_cases h1:c.toNat=j
 ·obtain rfl:c=UInt8.ofNat j:=UInt8.toNat_inj.1 (by rw [ej,h1])
  rw [if_pos ej,if_pos (by omega)]
 ·rw [if_neg h1]
  by_cases h2:c.toNat < j
  ·rw [if_pos h2,if_pos (by omega)]
  ·rw [if_neg h2,if_neg (by omega)]
def ClassPost (r b:Nat) (h:Rx.Has) (s:Rx.Bytes) (ext fold:Bool) (e:Ending) (w':World):Prop:=match Rx.cls h s with
 | none=>e=.panicked [{ v:=brokenV,recovered:=false }]
 | some none=>e=.returned (.bool false)∧RdAt w' r s ext fold∧Blk w' b (setCells h) 349
 | some (some (h',s'))=>e=.returned (.bool true)∧RdAt w' r s' ext fold∧Blk w' b (setCells h') 349
theorem class_any (r b:Nat) (h:Rx.Has) (s:Rx.Bytes) (ext fold:Bool) (w:World) (hr:Rd w r s ext fold) (hb:Blk w b (setCells h) 349) :
  Calls Tryz.prog 350 #[.pointer (some ⟨r,0,none⟩),.pointer (some ⟨b,0,none⟩)] w fun e w'=>ClassPost r b h s ext fold e w'∧Kept (fun k=>k=r∨k=b) w w':=by
 have hne:=rd_ne hr.at_ hb
 have hcp:=Any.strings_CutPrefix Tryz.lays103 ⟨s.toArray⟩ ⟨#[91,58]⟩
 have c0:w.cell? ⟨r,0,none⟩=some (.string ⟨s.toArray⟩):=Blk.cell hr.at_ 0 rfl
 have f0:=hr.at_.free 0
 unfold ClassPost
 cases ht:Rx.take [91,58] s with
 | none=>
  have hpre:Lib.hasPrefix s [91,58]=false:=by
   unfold Rx.take at ht;split at ht
   ·cases ht
   ·rename_i h;exact Bool.eq_false_iff.2 h
  have e1:Rx.cls h s=some none:=by simp only [Rx.cls,ht]
  rw [e1]
  simp only [hpre] at hcp
  have HR:=Lib.hid hr
  clear ht hpre e1 hr
  generalize Lib.trimPrefix s [91,58]=u at hcp
  go_enter Tryz.func350,Tryz.ntmps350
  go_wp2_with fail
  refine (hcp _).mono ?_
  rintro e w' ⟨rfl,rfl⟩
  go_wp2_with fail
  go_ret
  exact ⟨⟨rfl,HR.out.at_,hb⟩,Kept.refl _ _⟩
 | some t=>
  have hpre:Lib.hasPrefix s [91,58]=true∧Lib.trimPrefix s [91,58]=t:=by
   unfold Rx.take at ht;split at ht
   ·rename_i h;cases ht;exact ⟨h,by unfold Lib.trimPrefix;exact if_pos h⟩
   ·cases ht
  simp only [hpre.1,hpre.2] at hcp
  have hlt:t.length≤s.length:=by
   unfold Rx.take at ht;split at ht
   ·cases ht;simp
   ·cases ht
  have hct:=cut_any t (by have:=hr.len;omega)
  unfold cutVal at hct
  cases hc:Rx.cutShut t with
  | none=>
   rw [hc] at hct
   have e1:Rx.cls h s=some none:=by simp only [Rx.cls,ht,hc]
   rw [e1]
   have HR:=Lib.hid hr
   clear ht hpre e1 hr hc hlt
   go_enter Tryz.func350,Tryz.ntmps350
   go_wp2_with fail
   refine (hcp _).mono ?_
   rintro e w' ⟨rfl,rfl⟩
   go_wp2_with fail
   refine (hct _ HR.out.glo).mono ?_
   rintro e w' ⟨rfl,n,rfl⟩
   go_wp2_with fail
   go_ret
   exact ⟨⟨rfl,HR.out.at_.drewN n,hb.drewN n⟩,(Kept.refl _ _).drewN n⟩
  | some x=>
   obtain ⟨name,rest⟩:=x
   have hnl:name.length≤1073741824:=by
    have:=hr.len
    rcases cut_shut t with ⟨h1,h2⟩ | ⟨h1,h2⟩
    ·rw [hc] at h2;simp at h2;obtain ⟨rfl,-⟩:=h2;simp;omega
    ·rw [hc] at h2;cases h2
   rw [hc] at hct
   have hlook:=cls_look name (.lit (.int .i64 (-1)))
   have hcls:=fun w=>classes_any w
   have HR:=Lib.hid hr
   have hz:=zero_class
   have hz2:clsElem (.agg #[.nilFunc])=some (.lit (.int .i64 (-1)),[]):=rfl
   cases hk:Rx.classOf name with
   | none=>
    have e1:Rx.cls h s=none:=by simp only [Rx.cls,ht,hc,hk]
    rw [e1]
    rw [hk] at hlook
    clear ht hpre e1 hr hc hlt hk
    go_enter Tryz.func350,Tryz.ntmps350
    go_wp2_with fail
    refine (hcp _).mono ?_
    rintro e w' ⟨rfl,rfl⟩
    go_wp2_with fail
    refine (hct _ HR.out.glo).mono ?_
    rintro e w' ⟨rfl,n,rfl⟩
    go_wp2_with fail
    refine (hcls _).mono ?_
    rintro e w2 ⟨rfl,hown,hbel⟩
    obtain ⟨v,ps,hrun,hv⟩:=hown.look_ok kStr Tryz.underlying454 (hz w2) hz2 (key:=.string ⟨name.toArray⟩) (kl:=.string name) (Go.WideMaps.keyOf_string_mk Tryz.underlying9 (by simp [ByteArray.size,maxLen];omega))
    rw [show Maps.has clsData (.string name)=false from hlook.1,show (w'.drewN n).heap.size=w'.heap.size from rfl] at hrun
    rw [show clsData.atKey (.string name) _=_ from hlook.2] at hv
    obtain rfl:=clsElem_nil hv
    have hbel2:Below w'.heap.size w' w2:=⟨hbel.os,hbel.tape,hbel.output,hbel.size,hbel.block⟩
    have c1:(w2.alloc (.cells #[.nilFunc] 452)).cell? ⟨w2.heap.size,0,none⟩=some .nilFunc:=(Blk.new w2 #[.nilFunc] 452).cell 0 rfl
    have f1:(w2.alloc (.cells #[.nilFunc] 452)).frozen? ⟨w2.heap.size,0,none⟩=false:=(Blk.new w2 #[.nilFunc] 452).free 0
    clear hown hlook hv hz hz2 hbel
    go_wp2_with fail
    refine (fail_any _).mono ?_
    rintro e w3 ⟨rfl,rfl⟩
    go_wp2_with fail
    exact ⟨rfl,rfl,((Kept.of_below hbel2).alloc _).mono (fun _ _ h=>.inl h)⟩
   | some k=>
    have e1:Rx.cls h s=some (some (fun c=>h c || k c,rest)):=by simp only [Rx.cls,ht,hc,hk]
    rw [e1]
    rw [hk] at hlook
    obtain ⟨hl1,fn,hl2,hfe,hfn⟩:=hlook
    clear ht hpre e1 hr hc hlt hk
    go_enter Tryz.func350,Tryz.ntmps350
    go_wp2_with fail
    refine (hcp _).mono ?_
    rintro e w' ⟨rfl,rfl⟩
    go_wp2_with fail
    refine (hct _ HR.out.glo).mono ?_
    rintro e w' ⟨rfl,n,rfl⟩
    go_wp2_with fail
    refine (hcls _).mono ?_
    rintro e w2 ⟨rfl,hown,hbel⟩
    obtain ⟨v,ps,hrun,hv⟩:=hown.look_ok kStr Tryz.underlying454 (hz w2) hz2 (key:=.string ⟨name.toArray⟩) (kl:=.string name) (Go.WideMaps.keyOf_string_mk Tryz.underlying9 (by simp [ByteArray.size,maxLen];omega))
    rw [hl1,show (w'.drewN n).heap.size=w'.heap.size from rfl] at hrun
    rw [hl2] at hv
    obtain rfl:=clsElem_inv hv
    have hbel2:Below w'.heap.size w' w2:=⟨hbel.os,hbel.tape,hbel.output,hbel.size,hbel.block⟩
    have c1:(w2.alloc (.cells #[.nilFunc] 452)).cell? ⟨w2.heap.size,0,none⟩=some .nilFunc:=(Blk.new w2 #[.nilFunc] 452).cell 0 rfl
    have f1:(w2.alloc (.cells #[.nilFunc] 452)).frozen? ⟨w2.heap.size,0,none⟩=false:=(Blk.new w2 #[.nilFunc] 452).free 0
    unfold clsFn at hrun
    clear hown hl1 hl2 hv hz hz2 hbel
    go_wp2_with fail
    have hR2:RdAt (w2.alloc (.cells #[.func (.func fn) #[] #[]] 452)) r s ext fold:=(HR.out.at_.keep hbel2 HR.out.lt).alloc _
    have hb2:=(hb.keep hbel2 hb.lt).alloc (.cells #[.func (.func fn) #[] #[]] 452)
    have hq:=Blk.new w2 #[.func (.func fn) #[] #[]] 452
    have hk2:=(Kept.of_below (S:=fun k=>k=r∨k=b) hbel2).alloc (.cells #[.func (.func fn) #[] #[]] 452)
    have hqb:w2.heap.size≠b:=by have:=hb.lt;have:=hbel2.size;omega
    have hqr:w2.heap.size≠r:=by have:=HR.out.lt;have:=hbel2.size;omega
    clear hb c0 f0 hrun c1 f1 hbel2
    generalize w2.heap.size=q at *
    generalize w2.alloc (.cells #[.func (.func fn) #[] #[]] 452)=w3 at *
    go_loopw [11,39] (fun _x11 x39 wr=>∃ j:Nat,j≤256∧x39=.int .i64 j∧Blk wr b (setCells fun c=>if c.toNat < j then h c || k c else h c) 349∧RdAt wr r s ext fold∧Blk wr q #[.func (.func fn) #[] #[]] 452∧Kept (fun k=>k=r∨k=b) w' wr) (fun _ x39 _=>256 - (intOf x39).toNat)
    case atStart=>exact ⟨0,Nat.zero_le _,rfl,by simpa using hb2,hR2,hq,hk2⟩
    case round=>
     clear hb2 hR2 hq hk2
     obtain ⟨j,hj,rfl,hb2,hR2,hq,hk2⟩:=hrel
     by_cases hlt:j < 256
     ·have c0:=hb2.cell (1+j) (nd_has _ _ _ _ _ j hlt)
      have f0:=hb2.free (1+j)
      have ej:(UInt8.ofNat j).toNat=j:=by simp [UInt8.toNat_ofNat'];omega
      rw [ej,if_neg (Nat.lt_irrefl j)] at c0
      have c1:=hq.cell 0 (v:=.func (.func fn) #[] #[]) rfl
      have hf:=hfn (UInt8.ofNat j)
      rw [ej] at hf
      have ew:IntKind.u8.wrap (j:Int)=j:=by simp [IntKind.wrap,IntKind.signed,IntKind.bits];omega
      have hf':∀ w,Calls Tryz.prog fn #[.int .u8 (IntKind.u8.wrap (j:Int))] w fun e w'=>e=.returned (.bool (k (UInt8.ofNat j)))∧w=w':=fun w=>by rw [ew];exact hf w
      clear hf ew
      cases hh:h (UInt8.ofNat j) with
      | true=>
       rw [hh] at c0
       go_wp2_with fail
       go_region
       all_goals go_wp2_with fail
       refine ⟨⟨j+1,by omega,by go_num, ?_,(hR2.setOther (a:=⟨b,1+j,none⟩) hne _).drew,(hq.setOther (a:=⟨b,1+j,none⟩) hqb _).drew,(hk2.setCell (.inl (.inr rfl)) _ _).drew⟩, ?_⟩
       ·have h5:=(hb2.set (1+j) (.bool (h (UInt8.ofNat j) || k (UInt8.ofNat j)))).drew
        unfold setCells at h5 ⊢
        rw [nd_set _ _ _ _ _ _ hlt,cls_step h k j hlt,hh] at h5
        exact h5
       ·show 256 - ((j:Int)+1).toNat < 256 - (j:Int).toNat
        omega
      | false=>
       rw [hh] at c0
       go_wp2_with fail
       go_region_with (go_at_fn fn;refine (hf' _).mono ?_;rintro e w4 ⟨rfl,rfl⟩)
       all_goals go_wp2_with fail
       refine ⟨⟨j+1,by omega,by go_num, ?_,(hR2.setOther (a:=⟨b,1+j,none⟩) hne _).drew,(hq.setOther (a:=⟨b,1+j,none⟩) hqb _).drew,(hk2.setCell (.inl (.inr rfl)) _ _).drew⟩, ?_⟩
       ·have h5:=(hb2.set (1+j) (.bool (h (UInt8.ofNat j) || k (UInt8.ofNat j)))).drew
        unfold setCells at h5 ⊢
        rw [nd_set _ _ _ _ _ _ hlt,cls_step h k j hlt,hh] at h5
        exact h5
       ·show 256 - ((j:Int)+1).toNat < 256 - (j:Int).toNat
        omega
     ·obtain rfl:j=256:=by omega
      have c0:wr.cell? ⟨r,0,none⟩=some (.string ⟨s.toArray⟩):=Blk.cell hR2 0 rfl
      have f0:=hR2.free 0
      go_wp2_with fail
      go_ret
      have e:(fun c:UInt8=>if c.toNat < 256 then h c || k c else h c)=fun c=>h c || k c:=by
       funext c
       rw [if_pos c.toNat_lt]
      rw [e] at hb2
      exact ⟨⟨rfl,hR2.set 0 _,hb2.setOther (a:=⟨r,0,none⟩) hne.symm _⟩,hk2.setCell (.inl (.inl rfl)) 0 _⟩
end Go.Proofs.YtefpcacnblaokaaGreatDoor.Rg

/-
  The walk of part. Condition: what is told lies in memory.
-/
set_option maxRecDepth 100000
set_option maxHeartbeats 1600000
namespace Go.Proofs.YtefpcacnblaokaaGreatDoor.Rg
open Go.RowKit Go.Shelf Go.Maps
theorem named_len {k:UInt8} {s s':Rx.Bytes} {c:UInt8} (h:Rx.named k s=some (c,s')):s'.length < s.length:=by
 unfold Rx.named at h
 split at h
 ·split at h
  ·simp at h;obtain ⟨-,rfl⟩:=h;simp;omega
  ·cases h
 ·cases h
theorem lower_len {s s':Rx.Bytes} {c:UInt8} (h:Rx.lower s=some (c,s')):s'.length < s.length:=by
 unfold Rx.lower at h
 split at h
 ·rename_i x hx;cases h;exact named_len hx
 ·split at h
  ·cases h
  ·cases h;simp
def PartPost (r b:Nat) (h:Rx.Has) (s:Rx.Bytes) (ext fold:Bool) (e:Ending) (w':World):Prop:=match Rx.part h s with
 | none=>e=.panicked [{ v:=brokenV,recovered:=false }]
 | some (h',s')=>e=.returned (.tuple #[])∧RdAt w' r s' ext fold∧Blk w' b (setCells h') 349
def NamedAns (k:UInt8) (s:Rx.Bytes) (c:UInt8) (is:Bool) (s0:Rx.Bytes):Prop:=(is=true∧Rx.named k s=some (c,s0))∨(is=false∧Rx.named k s=none∧c=0∧s0=s)
theorem named_ans (r:Nat) (k:UInt8) (s:Rx.Bytes) (ext fold:Bool) (w:World) (h:RdAt w r s ext fold) :
  Calls Tryz.prog 351 #[.pointer (some ⟨r,0,none⟩),.string ⟨#[k]⟩] w fun e w'=>(∃ c is s0,e=.returned (.tuple #[.int .u8 c.toNat,.bool is])∧RdAt w' r s0 ext fold∧Hid (NamedAns k s c is s0))∧Kept (·=r) w w':=by
 refine (named_any r k s ext fold w h).mono ?_
 rintro e w' ⟨h1,hk⟩
 refine ⟨?_,hk⟩
 unfold NamedPost at h1
 cases hn:Rx.named k s with
 | none=>rw [hn] at h1;exact ⟨0,false,s,h1.1,h1.2,.inr ⟨rfl,hn,rfl,rfl⟩⟩
 | some x=>obtain ⟨c,s0⟩:=x;rw [hn] at h1;exact ⟨c,true,s0,h1.1,h1.2,.inl ⟨rfl,hn⟩⟩
structure InSet (w wx:World) (r b:Nat) (h:Rx.Has) (s:Rx.Bytes) (ext fold:Bool):Prop where
 rd:RdAt wx r s ext fold
 nd:Blk wx b (setCells h) 349
 kept:Kept (fun k=>k=r∨k=b) w wx
theorem InSet.go {w wx w':World} {r b:Nat} {h:Rx.Has} {s s':Rx.Bytes} {ext fold:Bool} (I:InSet w wx r b h s ext fold) (hne:r≠b) (hr:RdAt w' r s' ext fold) (hk:Kept (·=r) wx w'):InSet w w' r b h s' ext fold:=
 ⟨hr,I.nd.kept hk (Ne.symm hne),I.kept.trans (hk.mono fun _ _ h=>.inl h)⟩
theorem InSet.set {w wx:World} {r b:Nat} {h:Rx.Has} {s:Rx.Bytes} {ext fold:Bool} (I:InSet w wx r b h s ext fold) (hne:r≠b) (i:Nat) (hi:i < 256) (v:Bool):InSet w (wx.setCell ⟨b,1+i,none⟩ (.bool v)) r b (fun c=>if c.toNat=i then v else h c) s ext fold:=by
 refine ⟨I.rd.setOther (a:=⟨b,1+i,none⟩) hne _, ?_,I.kept.setCell (.inl (.inr rfl)) _ _⟩
 have h5:=I.nd.set (1+i) (.bool v)
 unfold setCells at h5 ⊢
 rw [nd_set _ _ _ _ _ _ hi] at h5
 exact h5
theorem InSet.cell {w wx:World} {r b:Nat} {h:Rx.Has} {s:Rx.Bytes} {ext fold:Bool} (I:InSet w wx r b h s ext fold):wx.cell? ⟨r,0,none⟩=some (.string ⟨s.toArray⟩):=Blk.cell I.rd 0 rfl
theorem set_eq (h:Rx.Has) (c:UInt8):(fun d:UInt8=>if d.toNat=c.toNat then true else h d)=fun d=>h d || d == c:=by
 funext d
 by_cases hd:d=c
 ·subst hd;simp
 ·rw [if_neg (fun h2=>hd (UInt8.toNat_inj.1 h2))]
  have:(d == c)=false:=by simp [hd]
  rw [this,Bool.or_false]
theorem setTo_step (h:Rx.Has) (a k:Nat) (hak:a≤k):(fun d:UInt8=>if d.toNat=k then true else h d || (decide (a≤d.toNat) && decide (d.toNat < k)))=fun d=>h d || (decide (a≤d.toNat) && decide (d.toNat < k+1)):=by
 funext d
 by_cases hd:d.toNat=k
 ·rw [if_pos hd]
  have h1:decide (a≤d.toNat)=true:=by simp;omega
  have h2:decide (d.toNat < k+1)=true:=by simp;omega
  rw [h1,h2];simp
 ·rw [if_neg hd]
  have h2:decide (d.toNat < k+1)=decide (d.toNat < k):=by congr 1;apply propext;omega
  rw [h2]
theorem lower_cases {s:Rx.Bytes} {c0:UInt8} {is0:Bool} {s0:Rx.Bytes} (h:NamedAns 46 s c0 is0 s0):(is0=true∧Rx.lower s=some (c0,s0))∨(is0=false∧s0=s∧((s=[]∧Rx.lower s=none)∨∃ c s1,s=c :: s1∧Rx.lower s=some (c,s1))):=by
 unfold Rx.lower
 rcases h with ⟨h1,h2⟩ | ⟨h1,h2,-,h4⟩
 ·left;rw [h2];exact ⟨h1,rfl⟩
 ·right;rw [h2];refine ⟨h1,h4, ?_⟩
  cases s with
  | nil=>left;exact ⟨rfl,rfl⟩
  | cons c s1=>right;exact ⟨c,s1,rfl,rfl⟩
theorem part_any (r b:Nat) (h:Rx.Has) (s:Rx.Bytes) (ext fold:Bool) (w:World) (hr:Rd w r s ext fold) (hb:Blk w b (setCells h) 349) :
  Calls Tryz.prog 334 #[.pointer (some ⟨r,0,none⟩),.pointer (some ⟨b,0,none⟩)] w fun e w'=>PartPost r b h s ext fold e w'∧Kept (fun k=>k=r∨k=b) w w':=by
 have hne:=rd_ne hr.at_ hb
 have hcls:=class_any r b h s ext fold w hr hb
 have hpart:Hid (∀ x,Rx.part h s=x→∀ e w',PartPost r b h s ext fold e w'=match x with
  | none=>e=.panicked [{ v:=brokenV,recovered:=false }]
  | some (h',s')=>e=.returned (.tuple #[])∧RdAt w' r s' ext fold∧Blk w' b (setCells h') 349):=by
  rintro x rfl e w';rfl
 unfold ClassPost at hcls
 rcases hc:Rx.cls h s with _ | _ | ⟨h',s'⟩
 ·rw [hc] at hcls
  have HX:Hid (Rx.part h s=none):=by show _=_;unfold Rx.part;rw [hc]
  clear hb hr hc
  go_enter Tryz.func334,Tryz.ntmps334
  go_wp2_with fail
  refine hcls.mono ?_
  rintro e w' ⟨rfl,hk⟩
  go_wp2_with fail
  exact ⟨rfl,(hpart.out _ HX.out _ _).mpr rfl,hk⟩
 ·rw [hc] at hcls
  have HC:=Lib.hid hc
  have HR:=Lib.hid hr
  clear hb hr hc
  go_enter Tryz.func334,Tryz.ntmps334
  go_wp2_with fail
  refine hcls.mono ?_
  rintro e w1 ⟨⟨rfl,hr1,hb1⟩,hk1⟩
  clear hcls
  have I:InSet w w1 r b h s ext fold:=⟨hr1,hb1,hk1⟩
  have hn:=named_ans r 61 s ext fold w1 hr1
  clear hr1 hb1 hk1
  go_wp2_with fail
  refine hn.mono ?_
  rintro e w2 ⟨⟨c0,is0,s0,rfl,hr2,HA⟩,hk2⟩
  have I2:=I.go hne hr2 hk2
  clear hr2 hk2 I hn w1
  rcases HA.out with ⟨rfl,h61⟩ | ⟨rfl,h61,rfl,rfl⟩
  ·have HX:Hid (Rx.part h s=some (fun d=>h d || d == c0,s0)):=by show _=_;unfold Rx.part;rw [HC.out,h61]
   have f0:=I2.nd.free (1+c0.toNat)
   have hcl:=c0.toNat_lt
   have x0:=I2.nd.cell (1+c0.toNat) (nd_has _ _ _ _ _ c0.toNat hcl)
   clear h61
   go_wp2_with fail
   refine bodyPost_ret (results_none rfl _ _ _) rfl ?_
   have I3:=I2.set hne c0.toNat hcl true
   rw [set_eq] at I3
   rw [hpart.out _ HX.out]
   exact ⟨⟨rfl,I3.rd,I3.nd⟩,I3.kept⟩
  ·have HX:Hid (Rx.part h s0=match Rx.lower s0 with
    | none=>none
    | some (c,r)=>match Rx.rangeOf c r with
     | none=>none
     | some (d,r2)=>some (fun e=>h e || Rx.within e c d,r2)):=by show _=_;unfold Rx.part;rw [HC.out,h61];rfl
   clear h61 HA HC
   have hn:=named_ans r 46 s0 ext fold w2 I2.rd
   go_wp2_with fail
   refine hn.mono ?_
   rintro e w3 ⟨⟨c1,is1,s1,rfl,hr3,HA⟩,hk3⟩
   have I3:=I2.go hne hr3 hk3
   clear hr3 hk3 I2 hn w2
   go_upto_if 30 with fail
   go_cut [6,7,24,26,28,29,30,31,32] (fun s6 _s7 _s24 _s26 _s28 _s29 _s30 _s31 _s32 wx=>∃ c s1,Hid (Rx.lower s0=some (c,s1))∧s6=.int .u8 c.toNat∧InSet w wx r b h s1 ext fold)
   case first=>
    rcases lower_cases HA.out with ⟨rfl,hl⟩ | ⟨rfl,rfl,⟨rfl,hl⟩ | ⟨c,s2,hs,hl⟩⟩
    ·have HL:=Lib.hid hl
     clear hl HA
     go_wp2_with fail
     go_meet
     exact ⟨c1,s1,HL,rfl,I3⟩
    ·have HL:=Lib.hid hl
     clear hl HA
     have hx:=next_any r [] ext fold w3 I3.rd
     unfold NextPost at hx
     go_wp2_with fail
     refine hx.mono ?_
     rintro e w4 ⟨rfl,hk4⟩
     go_wp2_with fail
     exact ⟨rfl,(hpart.out none (by rw [HX.out,HL.out]) _ _).mpr rfl,I3.kept.trans (hk4.mono fun _ _ h=>.inl h)⟩
    ·have HL:=Lib.hid hl
     have hx:=next_any r s1 ext fold w3 I3.rd
     unfold NextPost at hx
     rw [hs] at hx
     have HS:=Lib.hid hs
     clear hl HA hs
     go_wp2_with fail
     refine hx.mono ?_
     rintro e w4 ⟨⟨rfl,hr4⟩,hk4⟩
     go_wp2_with fail
     go_meet
     exact ⟨c,s2,HL,rfl,I3.go hne hr4 hk4⟩
   case rest=>
    obtain ⟨c,s2,HL,rfl,I4⟩:=hcut
    clear HA I3
    have HX2:Hid (Rx.part h s0=match Rx.rangeOf c s2 with
     | none=>none
     | some (d,r2)=>some (fun e=>h e || Rx.within e c d,r2)):=by show _=_;rw [HX.out,HL.out]
    clear HX HL
    have cr:=I4.cell
    go_upto_region 8 with fail
    go_cut [34,35,36,37,38,39,40,41,42,43,44,45,46,47,48,49,50,51,52,53,54,55] (fun _s34 _s35 _s36 _s37 _s38 _s39 _s40 _s41 _s42 _s43 _s44 _s45 _s46 _s47 _s48 _s49 _s50 _s51 _s52 _s53 _s54 s55 wx=>s55=.bool (Rx.isRange s2)∧wx=wc)
    case first=>
     have HI:=Lib.hid I4
     rcases s2 with _ | ⟨a,_ | ⟨x,q⟩⟩
     ·have HR2:Hid (Rx.isRange []=false):=by show _=_;rfl
      clear I4
      go_wp2_with fail
      go_meet
      exact ⟨by rw [HR2.out],rfl⟩
     ·have HR2:Hid (Rx.isRange [a]=false):=by show _=_;rfl
      clear I4
      go_wp2_with fail
      go_meet
      exact ⟨by rw [HR2.out],rfl⟩
     ·have HR2:Hid (Rx.isRange (a :: x :: q)=((a == 45) && (x != 93))):=by show _=_;unfold Rx.isRange;rw [show decide (1 < (a :: x :: q).length)=true by simp];rfl
      have hlen:decide ((1:Int) < (q.length:Int)+1+1)=true:=by simp;omega
      clear I4
      by_cases ha:a=45
      ·subst ha
       go_wp2_with fail
       go_meet
       refine ⟨congrArg Value.bool ?_,rfl⟩
       rw [HR2.out]
       show ((x.toNat:Int) != 93)=(x != 93)
       unfold bne
       rw [u8_beq];rfl
      ·have hx1:((a.toNat:Int) == 45)=false:=by rw [← show ((45:UInt8).toNat:Int)=45 from rfl,← u8_beq];simpa using ha
       have HX1:=Lib.hid ha
       have hx3:¬ ((a.toNat:Int)=45):=by simpa using hx1
       clear ha hx1
       go_wp2_with fail
       go_meet
       exact ⟨by rw [HR2.out];simp [HX1.out],rfl⟩
    case rest=>
     obtain ⟨rfl,rfl⟩:=hcut
     go_upto_if 55 with fail
     go_cut [7,8,55,56,57,58,59,60,61,62,63,64,65,66,67,68,69,70,71,72,73,74,75,76,77] (fun _s7 s8 _s55 _s56 _s57 _s58 _s59 _s60 _s61 _s62 _s63 _s64 _s65 _s66 _s67 _s68 _s69 _s70 _s71 _s72 _s73 _s74 _s75 _s76 _s77 wx=>∃ d s3,Hid (Rx.rangeOf c s2=some (d,s3))∧Hid (c≤d)∧s8=.int .u8 d.toNat∧InSet w wx r b h s3 ext fold)
     case first=>
      cases hir:Rx.isRange s2 with
      | false=>
       have HR2:Hid (Rx.rangeOf c s2=some (c,s2)):=by show _=_;unfold Rx.rangeOf;rw [hir];rfl
       clear hir
       go_wp2_with fail
       go_meet
       exact ⟨c,s2,HR2,UInt8.le_refl c,rfl,I4⟩
      | true=>
       obtain ⟨t,rfl⟩:∃ t,s2=45 :: t:=by
        unfold Rx.isRange at hir
        cases s2 with
        | nil=>simp at hir
        | cons a t=>simp at hir;exact ⟨t,by rw [hir.2.1]⟩
       have HR2:Hid (Rx.rangeOf c (45 :: t)=match Rx.upper t with
        | none=>none
        | some (d,r2)=>if d < c then none else some (d,r2)):=by show _=_;unfold Rx.rangeOf;rw [hir];rfl
       clear hir
       have hx:=next_any r (45 :: t) ext fold _ I4.rd
       unfold NextPost at hx
       go_wp2_with fail
       refine hx.mono ?_
       rintro e w5 ⟨⟨rfl,hr5⟩,hk5⟩
       have I5:=I4.go hne hr5 hk5
       clear hr5 hk5 I4 hx cr
       have hn:=named_ans r 46 t ext fold w5 I5.rd
       go_wp2_with fail
       refine hn.mono ?_
       rintro e w6 ⟨⟨d1,is1,s5,rfl,hr6,HA⟩,hk6⟩
       have I6:=I5.go hne hr6 hk6
       clear hr6 hk6 I5 hn
       go_upto_if 64 with fail
       go_cut [7,8,58,60,61,62,63,64,65,66,67,68,69,70,71,72,73] (fun _s7 s8 _s58 _s60 _s61 _s62 _s63 _s64 _s65 _s66 _s67 _s68 _s69 _s70 _s71 _s72 _s73 wx=>∃ d s6,Hid (Rx.upper t=some (d,s6))∧s8=.int .u8 d.toNat∧InSet w wx r b h s6 ext fold)
       case first=>
        rcases HA.out with ⟨rfl,h46⟩ | ⟨rfl,h46,rfl,rfl⟩
        ·have HU:Hid (Rx.upper t=some (d1,s5)):=by show _=_;unfold Rx.upper;rw [h46]
         clear h46 HA
         go_wp2_with fail
         go_meet
         exact ⟨d1,s5,HU,rfl,I6⟩
        ·have hn:=named_ans r 61 s5 ext fold w6 I6.rd
         clear HA
         have H46:=Lib.hid h46
         clear h46
         go_wp2_with fail
         refine hn.mono ?_
         rintro e w7 ⟨⟨d2,is2,s6,rfl,hr7,HA⟩,hk7⟩
         have I7:=I6.go hne hr7 hk7
         clear hr7 hk7 I6 hn
         rcases HA.out with ⟨rfl,h61⟩ | ⟨rfl,h61,rfl,rfl⟩
         ·have HU:Hid (Rx.upper s5=some (d2,s6)):=by show _=_;unfold Rx.upper;rw [H46.out,h61]
          clear h61 HA
          go_wp2_with fail
          go_meet
          exact ⟨d2,s6,HU,rfl,I7⟩
         ·have hx:=next_any r s6 ext fold w7 I7.rd
          unfold NextPost at hx
          cases hs:s6 with
          | nil=>
           have HU:Hid (Rx.upper s6=none):=by show _=_;unfold Rx.upper;rw [H46.out,h61,hs]
           rw [hs] at hx
           clear h61 HA hs
           go_wp2_with fail
           refine hx.mono ?_
           rintro e w8 ⟨rfl,hk8⟩
           go_wp2_with fail
           exact ⟨rfl,(hpart.out none (by rw [HX2.out,HR2.out,HU.out]) _ _).mpr rfl,I7.kept.trans (hk8.mono fun _ _ h=>.inl h)⟩
          | cons d3 s8=>
           have HU:Hid (Rx.upper s6=some (d3,s8)):=by show _=_;unfold Rx.upper;rw [H46.out,h61,hs]
           rw [hs] at hx
           clear h61 HA hs
           go_wp2_with fail
           refine hx.mono ?_
           rintro e w8 ⟨⟨rfl,hr8⟩,hk8⟩
           go_wp2_with fail
           go_meet
           exact ⟨d3,s8,HU,rfl,I7.go hne hr8 hk8⟩
       case rest=>
        obtain ⟨d,s6,HU,rfl,I7⟩:=hcut
        clear HA I6
        by_cases hdc:d < c
        ·have HR3:Hid (Rx.rangeOf c (45 :: t)=none):=by show _=_;rw [HR2.out,HU.out];exact if_pos hdc
         rw [u8_lt] at hdc
         go_wp2_with fail
         refine (fail_any _).mono ?_
         rintro e w8 ⟨rfl,rfl⟩
         go_wp2_with fail
         exact ⟨rfl,(hpart.out none (by rw [HX2.out,HR3.out]) _ _).mpr rfl,I7.kept⟩
        ·have HR3:Hid (Rx.rangeOf c (45 :: t)=some (d,s6)):=by show _=_;rw [HR2.out,HU.out];exact if_neg hdc
         have HLE:Hid (c≤d):=by show c≤d;exact UInt8.not_lt.1 hdc
         rw [u8_lt] at hdc
         go_wp2_with fail
         go_meet
         exact ⟨d,s6,HR3,HLE,rfl,I7⟩
     case rest=>
      obtain ⟨d,s3,HR3,HLE,rfl,I7⟩:=hcut
      have HX3:Hid (Rx.part h s0=some (fun e=>h e || Rx.within e c d,s3)):=by show _=_;rw [HX2.out,HR3.out]
      have hle:c.toNat≤d.toNat:=UInt8.le_iff_toNat_le.1 HLE.out
      have hd256:=d.toNat_lt
      clear HX2 HR3 HLE I4 cr
      go_wp2_with fail
      go_loopw [9] (fun x9 wr=>∃ k:Nat,c.toNat≤k∧k≤d.toNat+1∧x9=.int .i64 k∧InSet w wr r b (fun e=>h e || (decide (c.toNat≤e.toNat) && decide (e.toNat < k))) s3 ext fold) (fun x9 _=>d.toNat+1 - (intOf x9).toNat)
      case atStart=>
       refine ⟨c.toNat,Nat.le_refl _,by omega,by go_num, ?_⟩
       have e:(fun e:UInt8=>h e || (decide (c.toNat≤e.toNat) && decide (e.toNat < c.toNat)))=h:=by
        funext e
        by_cases h1:c.toNat≤e.toNat
        ·rw [show decide (e.toNat < c.toNat)=false by simp;omega];simp
        ·rw [show decide (c.toNat≤e.toNat)=false by simp;omega];simp
       rw [e];exact I7
      case round=>
       clear I7
       obtain ⟨k,hck,hkd,rfl,I8⟩:=hrel
       by_cases hlt:k≤d.toNat
       ·have hk256:k < 256:=by omega
        have x0:=I8.nd.cell (1+k) (nd_has _ _ _ _ _ k hk256)
        have f0:=I8.nd.free (1+k)
        go_wp2_with fail
        refine ⟨⟨k+1,by omega,by omega,by go_num, ?_⟩, ?_⟩
        ·have I9:=I8.set hne k hk256 true
         rw [setTo_step h c.toNat k hck] at I9
         exact I9
        ·show d.toNat+1 - ((k:Int)+1).toNat < d.toNat+1 - (k:Int).toNat
         omega
       ·obtain rfl:k=d.toNat+1:=by omega
        go_wp2_with fail
        go_end0
        refine ⟨(hpart.out _ HX3.out _ _).mpr ⟨rfl,I8.rd, ?_⟩,I8.kept⟩
        have e:(fun e:UInt8=>h e || (decide (c.toNat≤e.toNat) && decide (e.toNat < d.toNat+1)))=fun e=>h e || Rx.within e c d:=by
         funext e
         unfold Rx.within
         congr 1
         rw [Bool.eq_iff_iff]
         simp only [Bool.and_eq_true,decide_eq_true_eq,UInt8.le_iff_toNat_le]
         omega
        have:=I8.nd
        rw [e] at this
        exact this
 ·rw [hc] at hcls
  have HX:Hid (Rx.part h s=some (h',s')):=by show _=_;unfold Rx.part;rw [hc]
  clear hb hr hc
  go_enter Tryz.func334,Tryz.ntmps334
  go_wp2_with fail
  refine hcls.mono ?_
  rintro e w' ⟨⟨rfl,hr',hb'⟩,hk⟩
  go_wp2_with fail
  refine bodyPost_ret (results_none rfl _ _ _) rfl ?_
  rw [hpart.out _ HX.out]
  exact ⟨⟨rfl,hr',hb'⟩,hk⟩
end Go.Proofs.YtefpcacnblaokaaGreatDoor.Rg
