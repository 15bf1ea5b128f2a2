/-
  Texts of this seat put together: O1, Sd38, Sd39, Sd40.
-/
import Derived.Test.YtefpcacnblaokaaGreatDoorQ1
import Derived.Test.YtefpcacnblaokaaGreatDoorQ30
import Derived.Maps.OwnSet

/-
  The walk of opt.letters. Condition: the spec is short.
-/
set_option maxRecDepth 100000
set_option maxHeartbeats 4000000
namespace Go.Proofs.YtefpcacnblaokaaGreatDoor
open Go.RowKit Go.Shelf Go.Maps
def KMap (D:DataW Unit) (f:UInt8→Nat):Prop:=∀ (c:UInt8) z,D.atKey (.int .u8 c.toNat) z=if f c=0 then z else .lit (.int .i64 (f c))
theorem kU8:Keyed Tryz.prog 5:=Maps.int_keyed Tryz.underlying5
theorem key_u8 (c:UInt8):keyOf Tryz.prog 5 (.int .u8 c.toNat)=some (.int .u8 c.toNat):=keyOf_int_mk Tryz.underlying5 (WalkArith.wf_u8 (by have:=c.toNat_lt;omega))
theorem keyLit_u8 (n:Int):WideAt.IsKeyLit (.int .u8 n):=by unfold WideAt.IsKeyLit;trivial
theorem KMap.nil:KMap (.map []) (fun _=>0):=fun c z=>by simp [DataW.atKey]
theorem KMap.put {D:DataW Unit} {f:UInt8→Nat} (h:KMap D f) (hD:IsMap D) (c:UInt8) (n:Nat) (hn:n≠0):KMap (D.put (.int .u8 c.toNat) (.lit (.int .i64 n))) (fun x=>if x=c then n else f x):=by
 intro x z
 by_cases hx:x=c
 ·subst hx
  rw [atKey_put_same hD (keyLit_u8 _)]
  simp [hn]
 ·rw [atKey_put_other (fun e=>hx (by injection e with _ e;exact UInt8.toNat_inj.1 (by omega))),h x z]
  simp [hx]
theorem KMap.has {D:DataW Unit} {f:UInt8→Nat} (h:KMap D f) (c:UInt8):Maps.has D (.int .u8 c.toNat)=!(f c == 0):=by
 by_cases hf:f c=0
 ·rw [has_false_of_atKey (fun z=>by rw [h c z,if_pos hf])];simp [hf]
 ·rw [has_true_of_atKey (fun z=>by rw [h c z,if_neg hf])];simp [hf]
theorem grown_below' {b B:Nat} {w w':World} (h:w.grownBy w' (some b)) (hb:B≤b) (hw:B≤w.heap.size):Below B w w':=
 ⟨h.os,h.tape,h.output,h.size,fun k hk=>h.block k (by omega) (by simp;omega)⟩
theorem look2 {W:World} {m n:Nat} {D:DataW Unit} {f:UInt8→Nat} (ho:W.ownsMap Tryz.prog 5 (plainElem (H:=Unit) Tryz.prog 3) m n D) (hk:KMap D f) (c:UInt8) :
  (Instr.lookup 249 (.map (some m)) (.int .u8 c.toNat) true).run Tryz.prog W=.ok (.tuple #[.int .i64 (f c),.bool (!(f c == 0))]) W:=by
 obtain ⟨v,ps,hrun,hv⟩:=ho.look_ok kU8 (t:=249) Tryz.underlying249 (z:=.int .i64 0) (by kernel_rfl) (zd:=.lit (.int .i64 0)) (zp:=[]) (plainElem_int Tryz.underlying3 (by decide)) (key_u8 c)
 obtain ⟨x,rfl,hx,-⟩:=plainElem_int_inv Tryz.underlying3 hv
 rw [hk c] at hx
 rw [hrun,hk.has c]
 by_cases hf:f c=0
 ·rw [if_pos hf] at hx
  simp only [Prod.mk.injEq,DataW.lit.injEq,Lit.int.injEq,true_and] at hx
  rw [← hx.1,hf];rfl
 ·rw [if_neg hf] at hx
  simp only [Prod.mk.injEq,DataW.lit.injEq,Lit.int.injEq,true_and] at hx
  rw [← hx.1]
theorem look1 {W:World} {m n:Nat} {D:DataW Unit} {f:UInt8→Nat} (ho:W.ownsMap Tryz.prog 5 (plainElem (H:=Unit) Tryz.prog 3) m n D) (hk:KMap D f) (c:UInt8) :
  (Instr.lookup 249 (.map (some m)) (.int .u8 c.toNat) false).run Tryz.prog W=.ok (.int .i64 (f c)) W:=by
 obtain ⟨x,hrun,hx,-⟩:=ho.lookup_int kU8 (t:=249) Tryz.underlying249 Tryz.underlying3 (by kernel_rfl) (key_u8 c)
 rw [hk c] at hx
 rw [hrun]
 by_cases hf:f c=0
 ·rw [if_pos hf] at hx
  simp only [DataW.lit.injEq,Lit.int.injEq,true_and] at hx
  rw [← hx,hf];rfl
 ·rw [if_neg hf] at hx
  simp only [DataW.lit.injEq,Lit.int.injEq,true_and] at hx
  rw [← hx]
theorem letters_any (spec:Bts) (hs:spec.length≤1000) (w:World) :
  Calls Tryz.prog 124 #[.string ⟨spec.toArray⟩] w fun e w'=>∃ m n D,e=.returned (.map (some m))∧w.heap.size≤m∧w'.ownsMap Tryz.prog 5 (plainElem (H:=Unit) Tryz.prog 3) m n D∧KMap D (Op.kinds spec)∧Below w.heap.size w w':=by
 have hmm:=@run_makeMap Tryz.prog
 have o0:=Lib.hid (World.ownsMap_made w Tryz.prog 5 (plainElem (H:=Unit) Tryz.prog 3))
 have b0:=Lib.hid ((Below.refl w.heap.size w).alloc (Nat.le_refl _) (.map #[] 0))
 have hsz:(⟨spec.toArray⟩:ByteArray).size=spec.length:=rfl
 go_enter Tryz.func124,Tryz.ntmps124
 go_wp2_with fail
 go_loopw [4,5,6,7,11] (fun _x4 _x5 _x6 _x7 i wr=>∃ (k n:Nat) (D:DataW Unit) (f:UInt8→Nat),k≤spec.length∧n≤2 * k∧i=.int .i64 k∧Hid (wr.ownsMap Tryz.prog 5 (plainElem (H:=Unit) Tryz.prog 3) w.heap.size n D)∧Hid (KMap D f)∧Hid (Op.letF (spec.drop k) f=Op.kinds spec)∧Hid (Below w.heap.size w wr)) (fun _ _ _ _ i _=>spec.length - (intOf i).toNat)
 case atStart=>exact ⟨0,0,.map [],fun _=>0,Nat.zero_le _,Nat.le_refl _,rfl,o0,Lib.hid KMap.nil,Lib.hid rfl,b0⟩
 case round=>
  obtain ⟨k,n,D,f,hk,hn,rfl,ho,hm,hl,hb⟩:=hrel
  by_cases hlt:k < spec.length
  ·obtain ⟨c,hdrop,hbg⟩:=byte_at hlt
   have hL:=look2 ho.out hm.out c
   have HD:=Lib.hid hdrop
   clear hdrop
   have hstep:Op.letF (spec.drop k) f=Op.letF (spec.drop (k+1)) (if c=58∨c=45∨f c≠0 then f else fun x=>if x=c then (if (spec.drop (k+1)).head?=some 58 then 2 else 1) else f x):=by
    rw [HD.out,Op.letF]
   have HST:=Lib.hid hstep
   clear hstep
   by_cases hsk:c=58∨c=45∨f c≠0
   ·have hfin:Op.letF (spec.drop (k+1)) f=Op.kinds spec:=by have:=HST.out;rw [if_pos hsk,hl.out] at this;exact this.symm
    have HF:=Lib.hid hfin
    clear hfin HST
    by_cases h1:c=58
    ·have e1:((c.toNat:Int) == 58)=true:=by rw [h1];rfl
     clear hsk h1
     go_wp2_with fail
     go_roundw
     case rel=>exact ⟨k+1,n,D,f,by omega,by omega,by go_num,ho,hm,HF,hb⟩
     case measure=>simp [intOf];omega
    ·by_cases h2:c=45
     ·have e1:((c.toNat:Int) == 58)=false:=by simpa using u8_lit (n:=58) h1 (by decide)
      have e2:((c.toNat:Int) == 45)=true:=by rw [h2];rfl
      clear hsk h1 h2
      go_wp2_with fail
      go_roundw
      case rel=>exact ⟨k+1,n,D,f,by omega,by omega,by go_num,ho,hm,HF,hb⟩
      case measure=>simp [intOf];omega
     ·have hf:(f c == 0)=false:=by
       rcases hsk with h | h | h
       ·exact absurd h h1
       ·exact absurd h h2
       ·simpa using h
      have e1:((c.toNat:Int) == 58)=false:=by simpa using u8_lit (n:=58) h1 (by decide)
      have e2:((c.toNat:Int) == 45)=false:=by simpa using u8_lit (n:=45) h2 (by decide)
      rw [hf] at hL
      change _=Result.ok (Value.tuple #[.int .i64 (f c),.bool true]) wr at hL
      clear hsk h1 h2 hf
      go_wp2_with fail
      go_roundw
      case rel=>exact ⟨k+1,n,D,f,by omega,by omega,by go_num,ho,hm,HF,hb⟩
      case measure=>simp [intOf];omega
   ·have h1:c≠58:=fun h=>hsk (.inl h)
    have h2:c≠45:=fun h=>hsk (.inr (.inl h))
    have h3:f c=0:=Decidable.not_not.1 fun h=>hsk (.inr (.inr h))
    have hst2:=HST.out
    rw [if_neg hsk,hl.out] at hst2
    have HST2:=Lib.hid hst2
    have e1:((c.toNat:Int) == 58)=false:=by simpa using u8_lit (n:=58) h1 (by decide)
    have e2:((c.toNat:Int) == 45)=false:=by simpa using u8_lit (n:=45) h2 (by decide)
    have hf:(f c == 0)=true:=by simpa using h3
    rw [hf,h3] at hL
    change _=Result.ok (Value.tuple #[.int .i64 0,.bool false]) wr at hL
    obtain ⟨w1,hu1,ho1,hg1⟩:=ho.out.update kU8 (t:=249) Tryz.underlying249 (show n < maxLen by unfold maxLen;omega) (val:=.int .i64 1) (key_u8 c) (plainElem_int Tryz.underlying3 (by decide))
    have hm1:=hm.out.put ho.out.isMap c 1 (by decide)
    have hb1:=hb.out.trans (grown_below' hg1 (Nat.le_refl _) hb.out.size)
    have HO1:=Lib.hid ho1
    have HM1:=Lib.hid hm1
    have HB1:=Lib.hid hb1
    clear ho1 hm1 hb1 hg1 hst2 HST hsk h1 h2 h3 hf
    by_cases hlt2:k+1 < spec.length
    ·obtain ⟨d,hdrop2,hbg2⟩:=byte_at hlt2
     have hhead:(spec.drop (k+1)).head?=some d:=by rw [hdrop2];rfl
     have hc1:decide (((k:Int)+1) < spec.length)=true:=by simp;omega
     by_cases hd:d=58
     ·subst hd
      obtain ⟨w2,hu2,ho2,hg2⟩:=HO1.out.update kU8 (t:=249) Tryz.underlying249 (show n+1 < maxLen by unfold maxLen;omega) (val:=.int .i64 2) (key_u8 c) (plainElem_int Tryz.underlying3 (by decide))
      have hm2:=HM1.out.put HO1.out.isMap c 2 (by decide)
      have hb2:=HB1.out.trans (grown_below' hg2 (Nat.le_refl _) HB1.out.size)
      have hfin:Op.letF (spec.drop (k+1)) (fun x=>if x=c then 2 else if x=c then 1 else f x)=Op.kinds spec:=by
       rw [HST2.out]
       congr 1
       funext x
       rw [hhead,if_pos rfl]
       by_cases hx:x=c
       ·simp [hx]
       ·simp [hx]
      have HF:=Lib.hid hfin
      have HO2:=Lib.hid ho2
      have HM2:=Lib.hid hm2
      have HB2:=Lib.hid hb2
      clear hfin ho2 hm2 hb2 hg2 hhead hdrop2 HST2
      go_wp2_with fail
      go_roundw
      case rel=>exact ⟨k+1,n+1+1,_,_,by omega,by omega,by go_num,HO2,HM2,HF,HB2⟩
      case measure=>simp [intOf];omega
     ·have ed:((d.toNat:Int) == 58)=false:=by simpa using u8_lit (n:=58) hd (by decide)
      have hfin:Op.letF (spec.drop (k+1)) (fun x=>if x=c then 1 else f x)=Op.kinds spec:=by
       rw [HST2.out]
       congr 1
       funext x
       rw [hhead]
       have hd':¬ (some d=some (58:UInt8)):=by simpa using hd
       by_cases hx:x=c
       ·simp [hx,hd']
       ·simp [hx]
      have HF:=Lib.hid hfin
      clear hfin hhead hdrop2 HST2 hd
      go_wp2_with fail
      go_roundw
      case rel=>exact ⟨k+1,n+1,_,_,by omega,by omega,by go_num,HO1,HM1,HF,HB1⟩
      case measure=>simp [intOf];omega
    ·have hhead:(spec.drop (k+1)).head?=none:=by rw [List.drop_of_length_le (by omega)];rfl
     have hc1:decide (((k:Int)+1) < spec.length)=false:=by simp;omega
     have hfin:Op.letF (spec.drop (k+1)) (fun x=>if x=c then 1 else f x)=Op.kinds spec:=by
      rw [HST2.out]
      congr 1
      funext x
      rw [hhead]
      by_cases hx:x=c
      ·simp [hx]
      ·simp [hx]
     have HF:=Lib.hid hfin
     clear hfin hhead HST2
     go_wp2_with fail
     go_roundw
     case rel=>exact ⟨k+1,n+1,_,_,by omega,by omega,by go_num,HO1,HM1,HF,HB1⟩
     case measure=>simp [intOf];omega
  ·obtain rfl:k=spec.length:=by omega
   have hfin:Op.kinds spec=f:=by have:=hl.out;rw [List.drop_of_length_le (Nat.le_refl _),Op.letF] at this;exact this.symm
   have HM:Hid (KMap D (Op.kinds spec)):=by rw [hfin];exact hm
   clear hfin
   go_wp2_with fail
   go_ret
   exact ⟨_,n,D,rfl,Nat.le_refl _,ho.out,HM.out,hb.out⟩
end Go.Proofs.YtefpcacnblaokaaGreatDoor

/-
  What a letter's function in a machine's map does. Conditions: the machine lies in memory; a process called sed; a letter that is told.
-/
namespace Go.Proofs.YtefpcacnblaokaaGreatDoor
open Go.RowKit Go.Shelf Go.Maps
variable {F:Fx} {m:Mfx}
def whatV:Sd.What→Int
 | .on=>0
 | .toEnd=>1
 | .dropped=>2
theorem verb_look {w:World} {q:Sd.St} (h:Mst w F m q) (ch:UInt8) (n:Nat) (hd:vData.atKey (.int .u8 ch.toNat) (.lit (.int .i64 (-1)))=.lit (.int .i64 n)) :
  (Instr.lookup 216 (.map (some m.mv)) (.int .u8 ch.toNat) false).run Tryz.prog w=.ok (.func (.func n) #[.pointer (some ⟨m.mb,0,none⟩)] #[]) w:=by
 obtain ⟨U,R,k,c,o,hm,-⟩:=h
 obtain ⟨v,ps,hr,hv⟩:=hm.vm.lookup kU8 (t:=216) Tryz.underlying216 (Tryz.zeroValue340 w) (zd:=.lit (.int .i64 (-1))) (zp:=[]) rfl (key_u8 ch)
 rw [hd] at hv
 rw [hr,vElem_inv hv]
theorem verb_look0 {w:World} {q:Sd.St} (h:Mst w F m q) (ch:UInt8) (n:Nat) (hd:vData.atKey (.int .u8 ch.toNat) (.lit (.int .i64 (-1)))=.lit (.int .i64 (-((n:Int)+2)))) :
  (Instr.lookup 216 (.map (some m.mv)) (.int .u8 ch.toNat) false).run Tryz.prog w=.ok (.func (.func n) #[] #[]) w:=by
 obtain ⟨U,R,k,c,o,hm,-⟩:=h
 obtain ⟨v,ps,hr,hv⟩:=hm.vm.lookup kU8 (t:=216) Tryz.underlying216 (Tryz.zeroValue340 w) (zd:=.lit (.int .i64 (-1))) (zp:=[]) rfl (key_u8 ch)
 rw [hd] at hv
 rw [hr,vElem_inv0 hv]
def VerbFn (F:Fx) (m:Mfx) (q:Sd.St) (qi:Nat) (ch:UInt8) (wh:Sd.What) (q2:Sd.St):Prop:=∃ n:Nat,(∀ w,Mst w F m q→(Instr.lookup 216 (.map (some m.mv)) (.int .u8 ch.toNat) false).run Tryz.prog w=.ok (.func (.func n) #[.pointer (some ⟨m.mb,0,none⟩)] #[]) w) ∧
 (∀ args w,(callFunc n args).run Tryz.prog w=.ok (.enter n args) w)∧∀ w,Mst w F m q→Calls Tryz.prog n #[.pointer (some ⟨m.mb,0,none⟩),.pointer (some ⟨qi,0,none⟩)] w fun e w'=>e=.returned (.int .i64 (whatV wh))∧Mst w' F m q2
def VerbOk (x:Sd.Cmd):Prop:=x.c=115→x.prt=false∧x.rep.length≤1000
theorem verb_st (rest:List Bts) (ha:F.args=tagSed :: rest) {q q2:Sd.St} {i:Nat} (hi:i < m.cs.length) {x:Sd.Cmd} (hx:m.cs.getD i default=x) (ho:VerbOk x) {wh:Sd.What} (hv:Sd.verb F.line x q=some (wh,q2)) :
  ((x.c=123∨x.c=58)∧wh=.on∧q2=q)∨VerbFn F m q (m.qs.getD i 0) x.c wh q2:=by
 unfold Sd.verb at hv
 by_cases h0:x.c=123∨x.c=58
 ·rw [if_pos h0] at hv
  simp only [Option.some.injEq,Prod.mk.injEq] at hv
  exact .inl ⟨h0,hv.1.symm,hv.2.symm⟩
 rw [if_neg h0] at hv
 by_cases h100:x.c=100
 ·rw [if_pos h100] at hv
  refine .inr ?_
  rw [h100]
  simp only [Option.some.injEq,Prod.mk.injEq] at hv
  obtain ⟨rfl,rfl⟩:=hv
  refine ⟨143,fun w h=>verb_look h 100 143 (by kernel_rfl),enters_of Tryz.func143 (by kernel_rfl) rfl,fun w h=>(deletes_any _ _ w).mono (by rintro e w' ⟨rfl,rfl⟩;exact ⟨rfl,h⟩)⟩
 rw [if_neg h100] at hv
 by_cases h112:x.c=112
 ·rw [if_pos h112] at hv
  refine .inr ?_
  rw [h112]
  cases ht:Sd.tell (q.pat ++ [10]) q with
  | none=>rw [ht] at hv;cases hv
  | some t=>
   rw [ht] at hv
   simp only [Option.map_some,Option.some.injEq,Prod.mk.injEq] at hv
   obtain ⟨rfl,rfl⟩:=hv
   refine ⟨152,fun w h=>verb_look h 112 152 (by kernel_rfl),enters_of Tryz.func152 (by kernel_rfl) rfl,fun w h=>prints_st _ w h ht⟩
 rw [if_neg h112] at hv
 by_cases h71:x.c=71
 ·rw [if_pos h71] at hv
  refine .inr ?_
  rw [h71]
  split at hv
  ·rename_i hl
   simp only [Option.some.injEq,Prod.mk.injEq] at hv
   obtain ⟨rfl,rfl⟩:=hv
   refine ⟨146,fun w h=>verb_look h 71 146 (by kernel_rfl),enters_of Tryz.func146 (by kernel_rfl) rfl,fun w h=>getMore_st _ w h hl⟩
  ·cases hv
 rw [if_neg h71] at hv
 by_cases h72:x.c=72
 ·rw [if_pos h72] at hv
  refine .inr ?_
  rw [h72]
  split at hv
  ·rename_i hl
   simp only [Option.some.injEq,Prod.mk.injEq] at hv
   obtain ⟨rfl,rfl⟩:=hv
   refine ⟨148,fun w h=>verb_look h 72 148 (by kernel_rfl),enters_of Tryz.func148 (by kernel_rfl) rfl,fun w h=>putMore_st _ w h hl⟩
  ·cases hv
 rw [if_neg h72] at hv
 by_cases h104:x.c=104
 ·rw [if_pos h104] at hv
  refine .inr ?_
  rw [h104]
  simp only [Option.some.injEq,Prod.mk.injEq] at hv
  obtain ⟨rfl,rfl⟩:=hv
  refine ⟨147,fun w h=>verb_look h 104 147 (by kernel_rfl),enters_of Tryz.func147 (by kernel_rfl) rfl,fun w h=>put_st _ w h⟩
 rw [if_neg h104] at hv
 by_cases h120:x.c=120
 ·rw [if_pos h120] at hv
  refine .inr ?_
  rw [h120]
  simp only [Option.some.injEq,Prod.mk.injEq] at hv
  obtain ⟨rfl,rfl⟩:=hv
  refine ⟨149,fun w h=>verb_look h 120 149 (by kernel_rfl),enters_of Tryz.func149 (by kernel_rfl) rfl,fun w h=>change_st _ w h⟩
 rw [if_neg h120] at hv
 by_cases h78:x.c=78
 ·rw [if_pos h78] at hv
  refine .inr ?_
  rw [h78]
  cases hr:Sd.readL F.line q with
  | mk y t=>
  rw [hr] at hv
  cases y with
  | none=>
   simp only [Option.some.injEq,Prod.mk.injEq] at hv
   obtain ⟨rfl,rfl⟩:=hv
   refine ⟨151,fun w h=>verb_look h 78 151 (by kernel_rfl),enters_of Tryz.func151 (by kernel_rfl) rfl,fun w h=>nextMore_none rest ha _ w h hr⟩
  | some b=>
   simp only at hv
   split at hv
   ·rename_i hl
    simp only [Option.some.injEq,Prod.mk.injEq] at hv
    obtain ⟨rfl,rfl⟩:=hv
    refine ⟨151,fun w h=>verb_look h 78 151 (by kernel_rfl),enters_of Tryz.func151 (by kernel_rfl) rfl,fun w h=>nextMore_some rest ha _ w h hr hl⟩
   ·cases hv
 rw [if_neg h78] at hv
 by_cases h98:x.c=98
 ·rw [if_pos h98] at hv
  refine .inr ?_
  rw [h98]
  split at hv
  ·rename_i hl
   simp only [Option.some.injEq,Prod.mk.injEq] at hv
   obtain ⟨rfl,rfl⟩:=hv
   refine ⟨155,fun w h=>verb_look h 98 155 (by kernel_rfl),enters_of Tryz.func155 (by kernel_rfl) rfl,fun w h=>jump_st _ w h hl⟩
  ·cases hv
 rw [if_neg h98] at hv
 by_cases h121:x.c=121
 ·rw [if_pos h121] at hv
  refine .inr ?_
  rw [h121]
  simp only [Option.some.injEq,Prod.mk.injEq] at hv
  obtain ⟨rfl,rfl⟩:=hv
  refine ⟨157,fun w h=>verb_look h 121 157 (by kernel_rfl),enters_of Tryz.func157 (by kernel_rfl) rfl,fun w h=>letters_st w h hi hx⟩
 rw [if_neg h121] at hv
 by_cases h115:x.c=115
 ·rw [if_pos h115] at hv
  refine .inr ?_
  obtain ⟨hprt,hrep⟩:=ho h115
  rw [h115]
  cases hrx:x.rx with
  | none=>rw [hrx] at hv;cases hv
  | some b=>
   rw [hrx] at hv
   simp only at hv
   cases hs:Sd.subs b q.pat x (q.pat.length+2) 0 0 0 [] false with
   | none=>rw [hs] at hv;cases hv
   | some z=>
    obtain ⟨at_,acc,sm⟩:=z
    rw [hs] at hv
    have hcall:∀ (hl:sm=true→acc.length+(q.pat.length - at_)≤8192),VerbFn F m q (m.qs.getD i 0) 115 .on (if sm then { q with pat:=acc ++ q.pat.drop at_,done:=true } else q):=fun hl=>
     ⟨158,fun w h=>verb_look h 115 158 (by kernel_rfl),enters_of Tryz.func158 (by kernel_rfl) rfl,fun w h=>replaces_st w h hi hx hrx hprt hrep hs hl⟩
    cases sm with
    | false=>
     simp only [Option.some.injEq,Prod.mk.injEq] at hv
     obtain ⟨rfl,rfl⟩:=hv
     exact hcall fun e=>by cases e
    | true=>
     simp only at hv
     split at hv
     ·rename_i hl
      rw [hprt] at hv
      simp only [Bool.false_eq_true,if_false,Option.some.injEq,Prod.mk.injEq] at hv
      obtain ⟨rfl,rfl⟩:=hv
      exact hcall fun _=>hl
     ·cases hv
 ·rw [if_neg h115] at hv
  cases hv
end Go.Proofs.YtefpcacnblaokaaGreatDoor

/-
  The walk of a machine's cycle. Conditions: the machine lies in memory; a process called sed; commands that are told.
-/
set_option maxRecDepth 100000
set_option maxHeartbeats 8000000
namespace Go.Proofs.YtefpcacnblaokaaGreatDoor
open Go.RowKit Go.Shelf Go.Maps
variable {F:Fx} {m:Mfx}
def ScriptOk (cs:List Sd.Cmd):Prop:=cs.length≤1000000∧∀ i,i < cs.length→CmdOk i (cs.getD i default)∧VerbOk (cs.getD i default)∧(cs.getD i default).dest≤1000000
theorem Mst.lv_ {w:World} {q:Sd.St} (h:Mst w F m q):(∃ p c,m.lv=.slice p m.cs.length c)∧w.cell? ⟨m.mb,2,none⟩=some m.lv∧w.cell? ⟨m.mb,4,none⟩=some (.map (some m.mv))∧w.cell? ⟨m.mb,13,none⟩=some (.int .i64 q.jumps):=by
 obtain ⟨U,R,k,c,o,hm,-,-,-,h2,-⟩:=h
 obtain ⟨B,hr⟩:=hm.scr.row
 refine ⟨?_,Blk.cell hm.blk 2 rfl,Blk.cell hm.blk 4 rfl,by rw [← h2];exact Blk.cell hm.blk 13 rfl⟩
 rcases hr.2 with ⟨e,e2⟩ | ⟨g,cap,cs,e,-⟩
 ·exact ⟨_,_,by rw [e,e2]⟩
 ·exact ⟨_,_,e⟩
theorem Mst.row {w:World} {q:Sd.St} (h:Mst w F m q) {i:Nat} (hi:i < m.cs.length):∃ g c,m.lv=.slice (some ⟨g,0,none⟩) m.cs.length c∧w.cell? ⟨g,i,none⟩=some (.pointer (some ⟨m.qs.getD i 0,0,none⟩)):=by
 obtain ⟨U,R,k,c,o,hm,-⟩:=h
 obtain ⟨B,hr⟩:=hm.scr.row
 have hl:=hm.scr.len
 obtain ⟨n,hn⟩:∃ n,m.cs.length=n+1:=⟨m.cs.length - 1,by omega⟩
 have hr2:=hr
 rw [hn] at hr2
 obtain ⟨g,cp,e⟩:=own_slice hr2
 rw [← hn] at e
 refine ⟨g,cp,e, ?_⟩
 have h5:=hr.cells (g:=g) (by rw [e];rfl) i (.pointer (some ⟨m.qs.getD i 0,0,none⟩)) (by
  rw [List.getElem?_map,List.getElem?_eq_getElem (by omega),List.getD_eq_getElem?_getD,List.getElem?_eq_getElem (by omega)]
  rfl)
 rw [addr_add] at h5
 exact h5
theorem getD_of {l:List Sd.Cmd} {i:Nat} {x:Sd.Cmd} (h:l[i]?=some x):i < l.length∧l.getD i default=x:=by
 obtain ⟨h1,h2⟩:=List.getElem?_eq_some_iff.1 h
 exact ⟨h1,by rw [List.getD_eq_getElem?_getD,h];rfl⟩
theorem cycle_st (rest:List Bts) (ha:F.args=tagSed :: rest) (hok:ScriptOk m.cs) {q q2:Sd.St} {e:Bool} (g:Nat) (hc:Sd.cycle F.line m.cs g 0 q=some (e,q2)) (w:World) (h:Mst w F m q) :
  Calls Tryz.prog 161 #[.pointer (some ⟨m.mb,0,none⟩)] w fun en w'=>en=.returned (.int .i64 (if e then 1 else 2))∧Mst w' F m q2:=by
 obtain ⟨pl,cl,hlv⟩:=h.lv_.1
 have HLV:=Lib.hid hlv
 have HC:=Lib.hid hc
 have H:=Lib.hid h
 have HOK:=Lib.hid hok
 have hlen:=hok.1
 obtain ⟨E,hE⟩:∃ E:Int,(if e then (1:Int) else 2)=E:=⟨_,rfl⟩
 rw [hE]
 have HE:=Lib.hid hE
 clear h hc hlv hok hE
 go_enter Tryz.func161,Tryz.ntmps161
 go_wp2_with fail
 go_loopg [3,4,5,6] g (fun f x3 _x4 _x5 _x6 wr=>∃ (i:Nat) (q1:Sd.St),x3=.int .i64 i∧i≤2000000∧Hid (Mst wr F m q1)∧Hid (Sd.cycle F.line m.cs f i q1=some (e,q2)))
 case atStart=>exact ⟨0,q,rfl,by omega,H,HC⟩
 case round=>
  obtain ⟨i,q1,rfl,hi2,HM,HCY⟩:=hrel
  obtain ⟨-,c2,-,-⟩:=HM.out.lv_
  rw [HLV.out] at c2
  cases gk with
  | zero=>exact absurd HCY.out (by simp [Sd.cycle])
  | succ f=>
   have hcy:=HCY.out
   rw [Sd.cycle] at hcy
   have hw1:IntKind.i64.wrap ((i:Int)+1)=(i:Int)+1:=wrap_i64 (by omega) (by omega)
   cases hx:m.cs[i]? with
   | none=>
    rw [hx] at hcy
    simp only [Option.some.injEq,Prod.mk.injEq] at hcy
    obtain ⟨rfl,rfl⟩:=hcy
    have hge:¬ (i:Int) < (m.cs.length:Int):=by
     have:=List.getElem?_eq_none_iff.1 hx
     omega
    have hE1:E=1:=HE.out.symm
    subst hE1
    clear hx
    go_wp2_with fail
    go_ret
    exact ⟨rfl,HM.out⟩
   | some x=>
    rw [hx] at hcy
    simp only at hcy
    obtain ⟨hil,hgx⟩:=getD_of hx
    obtain ⟨hco,hvo,hde⟩:=HOK.out.2 i hil
    rw [hgx] at hco hvo hde
    obtain ⟨gg,cg,hlv2,hrow⟩:=HM.out.row hil
    have hlv3:=HLV.out.symm.trans hlv2
    injection hlv3 with e1 e2 e3
    subst e1
    subst e3
    clear e2 hlv2 hx
    have hlt:(i:Int) < (m.cs.length:Int):=by omega
    have hltn:i < m.cs.length:=hil
    have HGX:=Lib.hid hgx
    have hwd:IntKind.i64.wrap ((x.dest:Int) - 1)=(x.dest:Int) - 1:=wrap_i64 (by omega) (by omega)
    have hwd1:IntKind.i64.wrap ((x.dest:Int) - 1+1)=(x.dest:Int):=by rw [wrap_i64 (by omega) (by omega)];omega
    cases hch:Sd.chosen i x q1 with
    | none=>rw [hch] at hcy;cases hcy
    | some z=>
     obtain ⟨r,q3⟩:=z
     rw [hch] at hcy
     have hcall:=chosen_st wr HM.out hil hgx hco hch
     have HQI:Hid (∃ qi,m.qs.getD i 0=qi):=Lib.hid ⟨_,rfl⟩
     obtain ⟨qi,hqi⟩:=HQI.out
     have hvst:=fun (q4:Sd.St) (wh:Sd.What) (hv:Sd.verb F.line x q3=some (wh,q4))=>verb_st rest ha hil hgx hvo hv
     have HVST:=Lib.hid hvst
     rw [hqi] at hrow hcall
     have HQ:=Lib.hid hqi
     have hcm:Hid (∀ w7:World,∀ q7:Sd.St,Mst w7 F m q7→w7.cell? ⟨qi,0,none⟩=some (.int .u8 x.c.toNat)∧w7.cell? ⟨qi,3,none⟩=some (.int .i64 x.dest)):=Lib.hid fun w7 q7 h7=>by
      obtain ⟨av,re,rv,hcb,-⟩:=h7.cmd hil
      rw [HGX.out,HQ.out] at hcb
      exact ⟨Blk.cell hcb 0 cm_c,Blk.cell hcb 3 cm_dest⟩
     clear hgx hch hvst hqi hco hvo hil
     go_wp2_with fail
     refine hcall.mono ?_
     rintro en w2 ⟨rfl,hm2⟩
     obtain ⟨k0,k3⟩:=hcm.out w2 q3 hm2
     obtain ⟨-,-,k4,k13⟩:=hm2.lv_
     have HM2:=Lib.hid hm2
     clear hcall hm2 hrow c2
     cases r with
     | false=>
      simp only at hcy
      clear k4 k13
      by_cases hb:x.c=123
      ·rw [if_pos hb] at hcy
       have hb1:((x.c.toNat:Int) == 123)=true:=by rw [hb];rfl
       have HCY2:=Lib.hid hcy
       clear hcy hb
       go_wp2_with fail
       go_roundg f
       case measure=>omega
       case rel=>exact ⟨x.dest,q3,by go_num,by omega,HM2,HCY2⟩
      ·rw [if_neg hb] at hcy
       have hb1:((x.c.toNat:Int) == 123)=false:=by
        rw [Bool.eq_false_iff]
        simp only [ne_eq,beq_iff_eq]
        exact u8_lit (n:=123) hb (by decide)
       have HCY2:=Lib.hid hcy
       clear hcy hb
       go_wp2_with fail
       go_roundg f
       case measure=>omega
       case rel=>exact ⟨i+1,q3,by go_num,by omega,HM2,HCY2⟩
     | true=>
      simp only at hcy
      cases hvb:Sd.verb F.line x q3 with
      | none=>rw [hvb] at hcy;cases hcy
      | some z2=>
       obtain ⟨wh,q4⟩:=z2
       rw [hvb] at hcy
       have hvf:=HVST.out q4 wh hvb
       rw [HQ.out] at hvf
       have HCY2:=Lib.hid hcy
       clear hcy hvb
       have k4d:w2.drew.cell? ⟨m.mb,4,none⟩=some (.map (some m.mv)):=k4
       have k0d:w2.drew.cell? ⟨qi,0,none⟩=some (.int .u8 x.c.toNat):=k0
       rcases hvf with ⟨h0,rfl,rfl⟩ | ⟨n,hlk,hen,hcl⟩
       ·have lk:∀ w',Mst w' F m q4→(Instr.lookup 216 (.map (some m.mv)) (.int .u8 x.c.toNat) false).run Tryz.prog w'=.ok (.func (.func 138) #[] #[]) w':=fun w' h'=>by
         rcases h0 with h0 | h0
         ·rw [h0]
          exact verb_look0 h' 123 138 (by kernel_rfl)
         ·rw [h0]
          exact verb_look0 h' 58 138 (by kernel_rfl)
        have lk1:=lk w2 HM2.out
        have lk2:=lk w2.drew (HM2.out.below (below_drew2 w2))
        clear lk h0
        go_upto_region 9 with fail
        go_region_with ((go_at_call 138;refine (nothing_any _ _).mono ?_;rintro en w3 ⟨rfl,hw3⟩;have HW3:=Lib.hid hw3;clear hw3))
        all_goals
         have HM3:=Lib.hid (show Mst w3 F m q4 by rw [HW3.out];exact HM2.out.below (below_drew2 w2))
         clear lk1 lk2 k0 k3 k4 k13 k4d k0d
         go_wp2_with fail
         have hheld:=held_st w3 HM3.out
         refine hheld.mono ?_
         rintro en w4 ⟨⟨u4,rfl⟩,hm4⟩
         obtain ⟨-,j3⟩:=hcm.out w4 q4 hm4
         obtain ⟨-,-,-,j13⟩:=hm4.lv_
         have HM4:=Lib.hid hm4
         clear hheld hm4
         have hcy2:=HCY2.out
         rw [if_neg (Nat.lt_irrefl _)] at hcy2
         have hji:¬ (q4.jumps:Int) < (q4.jumps:Int):=by omega
         have HCY3:=Lib.hid hcy2
         clear hcy2
         go_wp2_with fail
         go_roundg f
         case measure=>omega
         case rel=>exact ⟨i+1,q4,by go_num,by omega,HM4,HCY3⟩
       ·have lk1:=hlk w2 HM2.out
        have lk2:=hlk w2.drew (HM2.out.below (below_drew2 w2))
        have hcl2:=hcl w2.drew (HM2.out.below (below_drew2 w2))
        clear hlk hcl
        go_upto_region 9 with fail
        go_region_with ((go_at_fn n;refine hcl2.mono ?_;rintro en w3 ⟨rfl,hm3⟩;have HM3:=Lib.hid hm3;clear hm3))
        all_goals
         clear lk1 lk2 k0 k3 k4 k13 k4d k0d hcl2 hen
         cases wh with
         | on=>
          unfold whatV
          go_wp2_with fail
          have hheld:=held_st w3 HM3.out
          refine hheld.mono ?_
          rintro en w4 ⟨⟨u4,rfl⟩,hm4⟩
          obtain ⟨-,j3⟩:=hcm.out w4 q4 hm4
          obtain ⟨-,-,-,j13⟩:=hm4.lv_
          have HM4:=Lib.hid hm4
          clear hheld hm4
          have hcy2:=HCY2.out
          by_cases hj:q3.jumps < q4.jumps
          ·rw [if_pos hj] at hcy2
           have hji:(q3.jumps:Int) < (q4.jumps:Int):=by omega
           have HCY3:=Lib.hid hcy2
           clear hcy2 hj
           go_wp2_with fail
           go_roundg f
           case measure=>omega
           case rel=>exact ⟨x.dest,q4,by go_num,by omega,HM4,HCY3⟩
          ·rw [if_neg hj] at hcy2
           have hji:¬ (q3.jumps:Int) < (q4.jumps:Int):=by omega
           have HCY3:=Lib.hid hcy2
           clear hcy2 hj
           go_wp2_with fail
           go_roundg f
           case measure=>omega
           case rel=>exact ⟨i+1,q4,by go_num,by omega,HM4,HCY3⟩
         | toEnd=>
          unfold whatV
          go_wp2_with fail
          have hheld:=held_st w3 HM3.out
          refine hheld.mono ?_
          rintro en w4 ⟨⟨u4,rfl⟩,hm4⟩
          obtain ⟨-,j3⟩:=hcm.out w4 q4 hm4
          obtain ⟨-,-,-,j13⟩:=hm4.lv_
          have HM4:=Lib.hid hm4
          clear hheld hm4
          have hcy2:=HCY2.out
          simp only [Option.some.injEq,Prod.mk.injEq] at hcy2
          obtain ⟨rfl,rfl⟩:=hcy2
          have hE1:E=1:=HE.out.symm
          subst hE1
          go_wp2_with fail
          go_ret
          exact ⟨rfl,HM4.out⟩
         | dropped=>
          unfold whatV
          go_wp2_with fail
          have hheld:=held_st w3 HM3.out
          refine hheld.mono ?_
          rintro en w4 ⟨⟨u4,rfl⟩,hm4⟩
          obtain ⟨-,j3⟩:=hcm.out w4 q4 hm4
          obtain ⟨-,-,-,j13⟩:=hm4.lv_
          have HM4:=Lib.hid hm4
          clear hheld hm4
          have hcy2:=HCY2.out
          simp only [Option.some.injEq,Prod.mk.injEq] at hcy2
          obtain ⟨rfl,rfl⟩:=hcy2
          have hE1:E=2:=HE.out.symm
          subst hE1
          go_wp2_with fail
          go_ret
          exact ⟨rfl,HM4.out⟩
end Go.Proofs.YtefpcacnblaokaaGreatDoor

/-
  The walk of a machine's run. Conditions: the machine lies in memory; a process called sed; commands that are told.
-/
set_option maxRecDepth 100000
set_option maxHeartbeats 8000000
namespace Go.Proofs.YtefpcacnblaokaaGreatDoor
open Go.RowKit Go.Shelf Go.Maps
variable {F:Fx} {m:Mfx}
theorem Mst.more {w:World} {q:Sd.St} (h:Mst w F m q):w.cell? ⟨m.mb,16,none⟩=some (.bool q.over)∧w.cell? ⟨m.mb,5,none⟩=some (.bool m.quiet)∧q.pat.length≤200000∧∃ p c,w.cell? ⟨m.mb,7,none⟩=some (.slice p q.pat.length c)∧Bs w p q.pat:=by
 obtain ⟨U,R,k,c,o,hm,hp,hh,h1,h2,h3,h4,h5,h6,h7,h8,h9,h10⟩:=h
 obtain ⟨p,cp,e,hb,-⟩:=hp.bs
 exact ⟨by rw [← h5];exact Blk.cell hm.blk 16 rfl,Blk.cell hm.blk 5 rfl,h9,p,cp,by rw [← e];exact Blk.cell hm.blk 7 rfl,hb⟩
theorem mrun_st (rest:List Bts) (ha:F.args=tagSed :: rest) (hok:ScriptOk m.cs) {q q2:Sd.St} (g f:Nat) (hc:Sd.run F.line m.quiet m.cs g f q=some q2) (w:World) (h:Mst w F m q) :
  Calls Tryz.prog 93 #[.pointer (some ⟨m.mb,0,none⟩)] w fun en w'=>(∃ v,en=.returned v)∧Mst w' F m q2:=by
 have HC:=Lib.hid hc
 have H:=Lib.hid h
 have HOK:=Lib.hid hok
 clear h hc hok
 go_enter Tryz.func93,Tryz.ntmps93
 go_wp2_with fail
 go_loopg [2,3,4] f (fun f _x2 _x3 _x4 wr=>∃ q1:Sd.St,Hid (Mst wr F m q1)∧Hid (Sd.run F.line m.quiet m.cs g f q1=some q2))
 case atStart=>exact ⟨q,H,HC⟩
 case round=>
  obtain ⟨q1,HM,HR⟩:=hrel
  obtain ⟨c16,-⟩:=HM.out.more
  cases gk with
  | zero=>exact absurd HR.out (by simp [Sd.run])
  | succ f=>
   have hr:=HR.out
   rw [Sd.run] at hr
   cases hov:q1.over with
   | true=>
    rw [hov] at c16 hr
    simp only [if_true,Option.some.injEq] at hr
    subst hr
    clear hov
    go_wp2_with fail
    exact bodyPost_end (results_none rfl _ _ _) rfl ⟨⟨_,rfl⟩,HM.out⟩
   | false=>
    rw [hov] at c16 hr
    simp only [Bool.false_eq_true,if_false] at hr
    have hrd:=mread_st rest ha wr HM.out
    unfold ReadIn at hrd
    cases hrl:Sd.readL F.line q1 with
    | mk y t=>
    rw [hrl] at hr hrd
    cases y with
    | none=>
     simp only [Option.some.injEq] at hr
     subst hr
     clear hrl hov
     go_wp2_with fail
     refine hrd.mono ?_
     rintro en w1 ⟨rfl,hm1⟩
     have HM1:=Lib.hid hm1
     clear hrd hm1
     go_wp2_with fail
     refine bodyPost_ret (results_none rfl _ _ _) rfl ⟨⟨_,rfl⟩,HM1.out⟩
    | some b=>
     simp only at hr hrd
     have ht:t.hold=q1.hold∧t.jumps=0∧t.over=q1.over∧t.opens=q1.opens:=by
      unfold Sd.readL at hrl
      split at hrl
      ·cases hrl
      ·split at hrl
       ·cases hrl
       ·simp only [Prod.mk.injEq,Option.some.injEq] at hrl
        obtain ⟨-,rfl⟩:=hrl
        exact ⟨rfl,rfl,rfl,rfl⟩
     have HT:=Lib.hid ht
     have HOV:=Lib.hid hov
     have HR2:=Lib.hid hr
     clear hrl hov ht hr
     go_wp2_with fail
     refine hrd.mono ?_
     rintro en w1 ⟨v,rfl,U,R,k,c,o,hm,hv,hp,hh,h1,h2,h3,h4,h5,h6,h7,h8,h9,h10,h11,h12⟩
     obtain ⟨pv,cv,rfl,-,-⟩:=id hv.bs
     have c7:=Blk.cell hm.blk 7 (v:=c.pv) rfl
     have f7:=Blk.free hm.blk 7
     have s1:=hm.set (c':={ c with pv:=.slice pv b.length cv }) 7 (.slice pv b.length cv) rfl
     have c9:=Blk.cell s1.blk 9 (v:=.bool c.joined) rfl
     have f9:=Blk.free s1.blk 9
     have s2:=s1.set (c':={ c with pv:=.slice pv b.length cv,joined:=false }) 9 (.bool false) rfl
     have c12:=Blk.cell s2.blk 12 (v:=.bool c.done) rfl
     have f12:=Blk.free s2.blk 12
     have s3:=s2.set (c':={ c with pv:=.slice pv b.length cv,joined:=false,done:=false }) 12 (.bool false) rfl
     obtain ⟨t1,t2,t3,t4⟩:=HT.out
     have hm3:Mst (((w1.setCell ⟨m.mb,7,none⟩ (.slice pv b.length cv)).setCell ⟨m.mb,9,none⟩ (.bool false)).setCell ⟨m.mb,12,none⟩ (.bool false)) F m { t with pat:=b,joined:=false,done:=false }:=
      ⟨U,R,k,_,o,s3,((hv.stored 7 _).stored 9 _).stored 12 _,by rw [t1];exact ((hh.stored 7 _).stored 9 _).stored 12 _,h1,by show c.jumps=t.jumps;rw [t2,h2];rfl,rfl,rfl,h5.trans t3.symm,by show _=opV t.opens;rw [t4];exact h6,h7,h8,by show b.length≤200000;omega,by rw [t1];exact h10,by show t.jumps≤2000;omega,h12⟩
     have HM3:=Lib.hid hm3
     clear hrd hm hv hp hh h1 h2 h3 h4 h5 h6 h7 h8 h9 h10 h11 h12 s1 s2 s3 t1 t2 t3 t4 hm3
     go_upto_region 4 with fail
     obtain ⟨w3,hw3⟩:∃ w3,((w1.setCell ⟨m.mb,7,none⟩ (.slice pv b.length cv)).setCell ⟨m.mb,9,none⟩ (.bool false)).setCell ⟨m.mb,12,none⟩ (.bool false)=w3:=⟨_,rfl⟩
     rw [hw3] at HM3 ⊢
     have hhd:=held_st w3 HM3.out
     clear c7 f7 c9 f9 c12 f12 c16 hw3
     go_wp2_with fail
     refine hhd.mono ?_
     rintro en w4 ⟨⟨u4,rfl⟩,hm4⟩
     have HM4:=Lib.hid hm4
     clear hhd hm4
     have hr2:=HR2.out
     cases hcy:Sd.cycle F.line m.cs g 0 { t with pat:=b,joined:=false,done:=false } with
     | none=>rw [hcy] at hr2;cases hr2
     | some z=>
      obtain ⟨e,q5⟩:=z
      rw [hcy] at hr2
      simp only at hr2
      have hcyc:=cycle_st rest ha HOK.out g hcy w4 HM4.out
      obtain ⟨E,hE⟩:∃ E:Int,(if e then (1:Int) else 2)=E:=⟨_,rfl⟩
      rw [hE] at hcyc
      have HE:=Lib.hid hE
      have hE12:E=1∨E=2:=by
       rw [← hE]
       cases e
       ·exact .inr rfl
       ·exact .inl rfl
      have HE12:=Lib.hid hE12
      obtain ⟨q6,hq6,hr6⟩:∃ q6,(if e && !m.quiet then Sd.tell (q5.pat ++ [10]) q5 else some q5)=some q6∧Sd.run F.line m.quiet m.cs g f q6=some q2:=by
       by_cases hb:(e && !m.quiet)=true
       ·rw [if_pos hb] at hr2 ⊢
        cases ht:Sd.tell (q5.pat ++ [10]) q5 with
        | none=>rw [ht] at hr2;cases hr2
        | some q3=>rw [ht] at hr2;exact ⟨q3,rfl,hr2⟩
       ·rw [if_neg hb] at hr2 ⊢
        exact ⟨q5,rfl,hr2⟩
      have HQ6:=Lib.hid hq6
      have HR6:=Lib.hid hr6
      clear hcy hr2 hE hE12 hq6 hr6
      go_wp2_with fail
      go_loopw [4] (fun x4 wv=>(x4=.int .i64 3∧wv=w4)∨(x4=.int .i64 E∧Hid (Mst wv F m q6))) (fun x4 _=>(intOf x4).toNat)
      case atStart=>exact .inl ⟨rfl,rfl⟩
      case round=>
       rcases hrel with ⟨rfl,hwv⟩ | ⟨rfl,HM6⟩
       ·rw [hwv]
        clear hwv
        go_wp2_with fail
        refine hcyc.mono ?_
        rintro en w5 ⟨rfl,hm5⟩
        obtain ⟨-,c5,hpl,pp,cp,d7,hbs⟩:=hm5.more
        have hcv:=run_str hbs cp
        have g1:¬ 9223372036854775807 < q5.pat.length+1:=by omega
        have HM5:=Lib.hid hm5
        clear hcyc hm5 hbs
        cases e with
        | false=>
         have hE2:E=2:=HE.out.symm
         have hq:=HQ6.out
         simp only [Bool.false_and,Bool.false_eq_true,if_false,Option.some.injEq] at hq
         subst hq
         have hfl:=flush_st w5 HM5.out
         subst hE2
         clear c5 d7 hcv g1
         go_wp2_with fail
         refine hfl.mono ?_
         rintro en w7 ⟨rfl,hm7⟩
         have HM7:=Lib.hid hm7
         clear hfl hm7
         go_wp2_with fail
         exact ⟨.inr ⟨rfl,HM7⟩,by decide⟩
        | true=>
         have hE2:E=1:=HE.out.symm
         subst hE2
         have hq:=HQ6.out
         cases hqt:m.quiet with
         | true=>
          rw [hqt] at hq c5
          simp only [Bool.not_true,Bool.and_false,Bool.false_eq_true,if_false,Option.some.injEq] at hq
          subst hq
          have hfl:=flush_st w5 HM5.out
          have HQT:=Lib.hid hqt
          clear d7 hcv g1 hqt
          go_wp2_with fail
          refine hfl.mono ?_
          rintro en w7 ⟨rfl,hm7⟩
          have HM7:=Lib.hid hm7
          clear hfl hm7
          go_wp2_with fail
          exact ⟨.inr ⟨rfl,HM7⟩,by decide⟩
         | false=>
          rw [hqt] at hq c5
          simp only [Bool.not_false,Bool.and_self,if_true] at hq
          have htl:=tell_st (m:=m) (F:=F) (q5.pat ++ [10]) w5 HM5.out hq
          rw [← str_app q5.pat [10]] at htl
          have HQT:=Lib.hid hqt
          clear hq hqt
          go_wp2_with fail
          refine htl.mono ?_
          rintro en w6 ⟨rfl,hm6⟩
          have hfl:=flush_st w6 hm6
          clear htl hm6 c5 d7 hcv g1
          go_wp2_with fail
          refine hfl.mono ?_
          rintro en w7 ⟨rfl,hm7⟩
          have HM7:=Lib.hid hm7
          clear hfl hm7
          go_wp2_with fail
          exact ⟨.inr ⟨rfl,HM7⟩,by decide⟩
       ·have hne:(E == (3:Int))=false:=by
         rcases HE12.out with h | h <;> rw [h] <;> rfl
        clear hcyc
        go_wp2_with fail
        go_roundg f
        case measure=>omega
        case rel=>exact ⟨q6,HM6,HR6⟩
end Go.Proofs.YtefpcacnblaokaaGreatDoor
