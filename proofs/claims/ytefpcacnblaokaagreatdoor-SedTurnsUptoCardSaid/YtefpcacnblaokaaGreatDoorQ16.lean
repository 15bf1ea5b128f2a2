/-
  Texts of this seat put together: GW16, GW17, GW18, GW19.
-/
import Derived.Test.YtefpcacnblaokaaGreatDoorQ15
import Derived.Tactics
import Derived.Tactics2
import Derived.Defers
import Derived.Recover
import Derived.Laws.Pointers

/-
  The walk of pieces, given that of plain; the basic expressions whole. Condition: what is told lies in memory.
-/
set_option maxRecDepth 100000
set_option maxHeartbeats 3200000
namespace Go.Proofs.YtefpcacnblaokaaGreatDoor.Rg
open Go.RowKit Go.Shelf Go.Maps
def basOn (s:Rx.Bytes):Bool:=!s.isEmpty && !(([92,41]:Rx.Bytes).isPrefixOf s)
def basEnd (s:Rx.Bytes):Bool:=s == [36] || ([36,92,41]:Rx.Bytes).isPrefixOf s
theorem bas_off {fold free:Bool} {f:Nat} {s:Rx.Bytes} (h:basOn s=false):Rx.pieces fold (f+1) free s=some ([],s):=by
 rw [Rx.pieces.eq_def]
 simp only []
 rw [if_pos]
 unfold basOn at h
 cases s with
 | nil=>exact .inl rfl
 | cons c t=>right;simpa using h
theorem bas_on {fold free:Bool} {f:Nat} {c:UInt8} {t:Rx.Bytes} (h:basOn (c :: t)=true):Rx.pieces fold (f+1) free (c :: t) =
  if basEnd (c :: t) then (Rx.pieces fold f false t).map fun (x:List Rx.Nd × Rx.Bytes)=>(.fin :: x.1,x.2)
  else if c == 42 && !free then none
  else match Rx.plain fold f (c :: t) with
   | none=>none
   | some (a,s1)=>match Rx.piece false a false s1 with
    | none=>none
    | some (p,s2)=>(Rx.pieces fold f false s2).map fun (x:List Rx.Nd × Rx.Bytes)=>(p :: x.1,x.2):=by
 rw [Rx.pieces.eq_def]
 simp only []
 unfold basOn at h
 have h1:([92,41]:Rx.Bytes).isPrefixOf (c :: t)=false:=by simpa using h
 rw [if_neg (by rw [h1];simp)]
 have e1:(c :: t=[36]∨([36,92,41]:Rx.Bytes).isPrefixOf (c :: t)=true)↔basEnd (c :: t)=true:=by
  unfold basEnd;rw [Bool.or_eq_true,beq_iff_eq]
 have e2:((c :: t).head?=some 42∧free=false)↔(c == 42 && !free)=true:=by simp
 simp only [e1,e2,List.tail_cons]
 rfl
structure BaIn (fold:Bool) (X:Option (Rx.Nd × Rx.Bytes)) (w wr:World) (r:Nat) (v:Value) (done:List Rx.Nd) (ps:List Nat) (free:Bool) (s':Rx.Bytes) (f' L:Nat):Prop where
 nds:NdsAt wr w.heap.size v done ps
 go:Go1 w wr r s' false fold
 fuel:3 * s'.length+2≤f'
 len:done.length+s'.length≤L+1
 sl:s'.length≤L
 eq:Hid (X=(Rx.pieces fold f' free s').map fun x=>(Rx.joinN .cat (done ++ x.1),x.2))
theorem cell_one_new2 (w:World) (cs:Array Value):∀ j u,[ptrV w.heap.size][j]?=some u→((w.alloc (.cells cs 349)).alloc (.cells #[ptrV w.heap.size] 276)).cell? ((⟨w.heap.size+1,0,none⟩:Addr).add j)=some u:=by
 intro j u h
 have:=cell_one_new (w.alloc (.cells cs 349)) (ptrV w.heap.size) 276 j u h
 rw [show (w.alloc (.cells cs 349)).heap.size=w.heap.size+1 by simp] at this
 exact this
theorem NdsAt.pushNew {w wr w5:World} {r:Nat} {s:Rx.Bytes} {ext fold:Bool} {v v':Value} {done:List Rx.Nd} {ps:List Nat} {k:Int} {n:Rx.Nd} (h:NdsAt wr w.heap.size v done ps) (G:Go1 w wr r s ext fold) (hr:r < w.heap.size)
  (hn:∀ (W:World) (M:Nat→Prop) (p:Nat),M p→Blk W p (ndCells k noHas 0 0 (.slice none 0 0)) 349→NdIn W M p n)
  (hown:w5.ownsRow w.heap.size 276 1 v' (ps.length+1) (ps.map ptrV ++ [ptrV wr.heap.size]))
  (hg:((wr.alloc (.cells (ndCells k noHas 0 0 (.slice none 0 0)) 349)).alloc (.cells #[ptrV wr.heap.size] 276)).grownBy w5 v.ownBlock)
  (hv:v'.ownBlock=v.ownBlock∨v'.ownBlock=some ((wr.alloc (.cells (ndCells k noHas 0 0 (.slice none 0 0)) 349)).alloc (.cells #[ptrV wr.heap.size] 276)).heap.size) :
  NdsAt w5 w.heap.size v' (done ++ [n]) (ps ++ [wr.heap.size])∧Go1 w w5 r s ext fold:=by
 have hk:Kept (fun _=>False) wr (wr.alloc (.cells (ndCells k noHas 0 0 (.slice none 0 0)) 349)):=(Kept.refl _ _).alloc _
 have hb:=Blk.new wr (ndCells k noHas 0 0 (.slice none 0 0)) 349
 have hob:∀ k,v.ownBlock=some k→w.heap.size≤k∧k < wr.heap.size:=fun k e=>h.own.lt k e
 have hsz:=G.kept.size
 have hnd:=h.kept hk (fun _ _ h=>h)
 have G2:Go1 w (wr.alloc (.cells (ndCells k noHas 0 0 (.slice none 0 0)) 349)) r s ext fold:=G.go (G.rd.at_.alloc _) ((Kept.refl _ _).alloc _) (Nat.le_refl _)
 refine ⟨hnd.push (hn _ _ _ ⟨hsz,fun e=>by have:=(hob _ e).2;omega⟩ hb) hown hg hv,G2.pushed hg (fun k e=>(hob k e).1) hr⟩
theorem basic_any (fold:Bool) (L:Nat) (hA:PlainC fold L):BasicC fold L:=by
 intro s hsL f hf r w hr
 obtain ⟨f,rfl⟩:∃ g,f=g+1:=⟨f - 1,by omega⟩
 have HP:Hid (∀ x,Rx.basic fold (f+1) s=x→∀ e w',NodePost w.heap.size r false fold x e w'→NodePost w.heap.size r false fold (Rx.basic fold (f+1) s) e w'):=by
  rintro x rfl e w' h;exact h
 have HX0:Hid (Rx.basic fold (f+1) s=match Rx.take [94] s with
  | some r=>(Rx.pieces fold f true r).map fun (x:List Rx.Nd × Rx.Bytes)=>(Rx.joinN .cat (.beg :: x.1),x.2)
  | none=>(Rx.pieces fold f true s).map fun (x:List Rx.Nd × Rx.Bytes)=>(Rx.joinN .cat x.1,x.2)):=by
  show _=_
  rw [Rx.basic.eq_def]
  rfl
 generalize hpost:NodePost w.heap.size r false fold (Rx.basic fold (f+1) s)=POST at HP ⊢
 clear hpost
 have G:Go1 w w r s false fold:=⟨hr,Kept.refl _ _⟩
 have hrlt:=hr.lt
 have hslen:=hr.len
 have HA:=Lib.hid hA
 generalize Rx.basic fold (f+1) s=X at HP HX0
 clear hr hA
 obtain ⟨i0,hi,hz0,hz1,hz2⟩:=info_parts info_node
 go_enter Tryz.func231,Tryz.ntmps231
 go_wp2_with fail
 have hc:=G.take [94] _ rfl
 refine hc.mono ?_
 rintro e w1 ⟨rfl,G1⟩
 clear hc G
 go_upto_if 6 with fail
 go_cut [3,6,7,8,9,10,11] (fun s3 _ _ _ _ _ _ wx=>∃ done ps s1,BaIn fold X w wx r s3 done ps true s1 f s.length)
 case first=>
  cases h1:Rx.take [94] s with
  | none=>
   rw [h1] at G1 HX0
   simp only [Option.getD_none] at G1
   have I:BaIn fold X w w1 r (.slice none 0 0) [] [] true s f s.length:=⟨NdsAt.nil _ _,G1,by omega,by simp,Nat.le_refl _,HX0.out⟩
   clear h1 HX0
   go_wp2_with fail
   go_meet
   exact ⟨_,_,_,I⟩
  | some u=>
   have hu:=take_lt h1 (by decide)
   rw [h1] at G1 HX0
   simp only [Option.getD_some] at G1
   have hsz:=G1.kept.size
   have hnil:=NdsAt.nil w1 w.heap.size
   have hown:=hnil.own
   clear h1
   simp only [Option.isSome_some]
   have hce:=cell_one_new2 w1 (Tryz.zeroCells349.setIfInBounds 0 (.int .i64 2))
   go_wp2_with (at_builtin;refine wpList_append_own_at _ rfl _ _ 347 rfl w.heap.size 276 i0 (.pointer none) 1 8 Tryz.underlying347 hi hz0 hz1 hz2 rfl (by decide) _ _ _ rfl ((hown.alloc _).alloc _) ⟨w1.heap.size+1,0,none⟩ 1 1 [ptrV w1.heap.size] rfl rfl hce (by simp [ptrV,Value.oneCell']) (by unfold maxLen;simp) (by simp) (by simp;omega) ?_;intro v' w5 hown' hgrow _ hv')
   rw [nd_new] at hgrow hv'
   have hpn:=hnil.pushNew G1 hrlt (n:=.beg) (fun W M p hM hb=>.beg hM hb) hown' hgrow hv'
   go_meet
   refine ⟨_,_,u,hpn.1,hpn.2,by omega,by simp;omega,by omega, ?_⟩
   show _=_
   rw [HX0.out]
   rfl
 case rest=>
  obtain ⟨done,ps,s1,I⟩:=hcut
  clear HX0 G1
  go_wp2_with fail
  go_loopw [3,4,32,52] (fun x3 x4 _ _ wr=>∃ done ps free s' f',x4=.bool free∧BaIn fold X w wr r x3 done ps free s' f' s.length) (fun _ _ _ _ wr=>lenAt wr r)
  case atStart=>exact ⟨_,_,_,_,_,rfl,I⟩
  case round=>
   clear I
   obtain ⟨done,ps,free,s',f',rfl,I⟩:=hrel
   have cr:=I.go.cell
   obtain ⟨g,rfl⟩:∃ g,f'=g+1:=⟨f' - 1,by have:=I.fuel;omega⟩
   have HI:=Lib.hid I
   clear I
   go_upto_region 5 with fail
   go_cut [12,13,14,15,16,17,18,19,20,21,22,23,24] (fun _ _ _ _ _ _ _ _ _ _ _ _ s24 wx=>s24=.bool (basOn s')∧wx=wr)
   case first=>
    cases s' with
    | nil=>
     go_wp2_with fail
     go_meet
     exact ⟨rfl,rfl⟩
    | cons c t=>
     have hp:=hasPrefix_any (c :: t) [92,41]
     have HB:Hid (basOn (c :: t)=!(([92,41]:Rx.Bytes).isPrefixOf (c :: t))):=by show _=_;simp [basOn]
     generalize ([92,41]:Rx.Bytes).isPrefixOf (c :: t)=b at *
     go_wp2_with fail
     refine (hp _).mono ?_
     rintro e wx ⟨rfl,rfl⟩
     go_wp2_with fail
     go_meet
     exact ⟨by rw [HB.out],rfl⟩
   case rest=>
    obtain ⟨rfl,rfl⟩:=hcut
    cases hon:basOn s' with
    | false=>
     have HX:Hid (X=some (Rx.joinN .cat done,s')):=by
      show _=_
      rw [HI.out.eq.out,bas_off hon];simp
     have hwr:=HI.out.go.kept.size
     have hlen:=HI.out.len
     have hj:=join_any 4 .cat .cat _ done ps w.heap.size _ HI.out.nds hwr (by omega)
     clear hon
     go_wp2_with fail
     refine hj.mono ?_
     rintro e w2 ⟨⟨p,rfl,hn⟩,hbl⟩
     go_wp2_with fail
     go_ret
     exact ⟨HP.out _ HX.out _ _ ⟨p,rfl,HI.out.go.rd.at_.keep hbl HI.out.go.rd.lt,hn⟩,HI.out.go.kept.trans (Kept.of_below hbl)⟩
    | true=>
     cases s' with
     | nil=>cases hon
     | cons c t=>
      have HX:Hid (X=(if basEnd (c :: t) then (Rx.pieces fold g false t).map fun (x:List Rx.Nd × Rx.Bytes)=>(.fin :: x.1,x.2)
        else if c == 42 && !free then none
        else match Rx.plain fold g (c :: t) with
         | none=>none
         | some (a,s1)=>match Rx.piece false a false s1 with
          | none=>none
          | some (p,s2)=>(Rx.pieces fold g false s2).map fun (x:List Rx.Nd × Rx.Bytes)=>(p :: x.1,x.2)).map fun (x:List Rx.Nd × Rx.Bytes)=>(Rx.joinN .cat (done ++ x.1),x.2)):=by
       show _=_
       rw [HI.out.eq.out,bas_on hon]
      have hfuel:=HI.out.fuel
      have hlen:=HI.out.len
      have hsl:=HI.out.sl
      simp only [List.length_cons] at hfuel hlen hsl
      clear hon
      go_upto_region 7 with fail
      go_cut [32,33,34,35,36,37,38,39,40,41,42,43,44] (fun s32 _ _ _ _ _ _ _ _ _ _ _ _ wx=>s32=.bool (basEnd (c :: t))∧wx=wc)
      case first=>
       have hp:=hasPrefix_any (c :: t) [36,92,41]
       have HB:Hid (basEnd (c :: t)=((c :: t) == [36] || ([36,92,41]:Rx.Bytes).isPrefixOf (c :: t))):=rfl
       generalize ([36,92,41]:Rx.Bytes).isPrefixOf (c :: t)=b at *
       go_wp2_with fail
       ·rename_i hx
        have he:((c :: t) == ([36]:Rx.Bytes))=true:=by simpa using hx
        go_meet
        exact ⟨by rw [HB.out,he,Bool.true_or],rfl⟩
       ·rename_i hx _ _
        have he:((c :: t) == ([36]:Rx.Bytes))=false:=by
         have hx2:¬ c=36∨¬ t=[]:=by simpa using hx
         rw [beq_eq_false_iff_ne]
         intro e
         simp at e
         rcases hx2 with h | h
         ·exact h e.1
         ·exact h e.2
        have HE:=Lib.hid he
        clear he
        refine (hp _).mono ?_
        rintro e wx ⟨rfl,rfl⟩
        go_wp2_with fail
        go_meet
        exact ⟨by rw [HB.out,HE.out,Bool.false_or],rfl⟩
      case rest=>
       obtain ⟨rfl,rfl⟩:=hcut
       have hx:=(Go1.mk HI.out.go.rd (Kept.refl _ _):Go1 wc wc r (c :: t) false fold).next
       have hm:=lenAt_rd HI.out.go.rd.at_
       have hnds:=HI.out.nds
       cases hen:basEnd (c :: t) with
       | true=>
        rw [hen] at HX
        simp only [if_true] at HX
        clear hen
        go_wp2_with fail
        refine hx.mono ?_
        rintro e w3 ⟨rfl,G3⟩
        clear hx
        have G3w:Go1 w w3 r t false fold:=⟨G3.rd,HI.out.go.kept.trans G3.kept⟩
        have hnd3:=hnds.kept G3.kept (fun k hk e=>by omega)
        have hown:=hnd3.own
        have hpl:=hnd3.len
        have hw3:=G3w.kept.size
        have HND3:=Lib.hid hnd3
        clear hnd3 hnds G3
        have hce:=cell_one_new2 w3 (Tryz.zeroCells349.setIfInBounds 0 (.int .i64 3))
        go_wp2_with (at_builtin;refine wpList_append_own_at _ rfl _ _ 347 rfl w.heap.size 276 i0 (.pointer none) 1 8 Tryz.underlying347 hi hz0 hz1 hz2 rfl (by decide) _ _ _ rfl ((hown.alloc _).alloc _) ⟨w3.heap.size+1,0,none⟩ 1 1 [ptrV w3.heap.size] rfl rfl hce (by simp [ptrV,Value.oneCell']) (by unfold maxLen;omega) (by omega) (by simp;omega) ?_;intro v' w5 hown' hgrow _ hv')
        rw [nd_new] at hgrow hv'
        have hpn:=HND3.out.pushNew G3w hrlt (n:=.fin) (fun W M p hM hb=>.fin hM hb) hown' hgrow hv'
        have hm5:=lenAt_rd hpn.2.rd.at_
        refine ⟨⟨_,_,false,t,g,rfl,hpn.1,hpn.2,by omega,by simp;omega,by omega, ?_⟩, ?_⟩
        ·show _=_
         rw [HX.out]
         rcases Rx.pieces fold g false t with _ | ⟨l,s3⟩
         ·rfl
         ·simp
        ·rw [hm,hm5];simp
       | false=>
        rw [hen] at HX
        simp only [Bool.false_eq_true,if_false] at HX
        clear hen hx
        go_upto_region 10 with fail
        go_cut [52,53,54,55,56,57,58,59,60,61,62] (fun s52 _ _ _ _ _ _ _ _ _ _ wx=>s52=.bool (c == 42 && !free)∧wx=wc)
        case first=>
         by_cases h1:c=42
         ·subst h1
          go_wp2_with fail
          go_meet
          exact ⟨rfl,rfl⟩
         ·have g2:¬ ((c.toNat:Int)=42):=u8_ne h1
          have H1:Hid ((c == 42)=false):=by show _=_;simpa using h1
          clear h1
          go_wp2_with fail
          go_meet
          exact ⟨by rw [H1.out];rfl,rfl⟩
        case rest=>
         obtain ⟨rfl,rfl⟩:=hcut
         cases hst:c == 42 && !free with
         | true=>
          rw [hst] at HX
          simp only [if_true] at HX
          clear hst
          go_wp2_with fail
          refine (fail_any _).mono ?_
          rintro e w3 ⟨rfl,rfl⟩
          go_wp2_with fail
          exact ⟨rfl,HP.out _ HX.out _ _ rfl,HI.out.go.kept⟩
         | false=>
          rw [hst] at HX
          simp only [Bool.false_eq_true,if_false] at HX
          clear hst
          have hat:=HA.out (c :: t) (by simp;omega) g (by simp;omega) r _ HI.out.go.rd
          rcases hatom:Rx.plain fold g (c :: t) with _ | ⟨a,s1⟩
          ·rw [hatom] at hat HX
           clear hatom
           go_wp2_with fail
           refine hat.mono ?_
           rintro e w2 ⟨rfl,hk⟩
           go_wp2_with fail
           exact ⟨rfl,HP.out _ HX.out _ _ rfl,HI.out.go.kept.trans hk⟩
          ·rw [hatom] at hat HX
           have hl1:=(bas_lens fold g).2.2 _ _ _ hatom
           simp only [List.length_cons] at hl1
           clear hatom
           go_wp2_with fail
           refine hat.mono ?_
           rintro e w2 ⟨⟨p,rfl,hr2,hn2⟩,hk2⟩
           clear hat
           have G2:=HI.out.go.go hr2 hk2 (by simp;omega)
           have hrl:=HI.out.go.rd.lt
           have hpc:=piece_any r p _ a false s1 false fold w2 G2.rd hn2 hrl hk2.size
           rcases hpiece:Rx.piece false a false s1 with _ | ⟨n,s2⟩
           ·rw [hpiece] at hpc
            simp only [hpiece] at HX
            clear hpiece
            go_wp2_with fail
            refine hpc.mono ?_
            rintro e w3 ⟨rfl,hk3⟩
            go_wp2_with fail
            exact ⟨rfl,HP.out _ HX.out _ _ rfl,G2.kept.trans hk3⟩
           ·rw [hpiece] at hpc
            simp only [hpiece] at HX
            have hl2:=piece_len hpiece
            clear hpiece
            go_wp2_with fail
            refine hpc.mono ?_
            rintro e w3 ⟨⟨q,rfl,hr3,hn3⟩,hk3⟩
            clear hpc
            have G3:=G2.go hr3 hk3 hl2
            have hnd3:=hnds.kept (hk2.trans hk3) (fun k hk e=>by omega)
            have hown:=hnd3.own
            have hpl:=hnd3.len
            have hw3:=G3.kept.size
            have hob:∀ k,u3.ownBlock=some k→w.heap.size≤k:=fun k e=>(hown.lt k e).1
            have hnew:NdIn w3 (fun b=>w.heap.size≤b∧u3.ownBlock≠some b) q n:=hn3.mono fun k hk=>⟨by have:=HI.out.go.kept.size;omega,fun e=>by
             have:=(HI.out.nds.own.lt k e).2
             omega⟩
            have HNEW:=Lib.hid hnew
            have HOB:=Lib.hid hob
            have HND3:=Lib.hid hnd3
            clear hnew hob hnd3 hnds hk2 hk3 hn2 hn3 hr2 hr3
            go_wp2_with (at_builtin;refine wpList_append_own_at _ rfl _ _ 347 rfl w.heap.size 276 i0 (.pointer none) 1 8 Tryz.underlying347 hi hz0 hz1 hz2 rfl (by decide) _ _ _ rfl (hown.alloc _) ⟨w3.heap.size,0,none⟩ 1 1 [ptrV q] rfl rfl (cell_one_new _ _ _) (by simp [ptrV,Value.oneCell']) (by unfold maxLen;omega) (by omega) (by simp;omega) ?_;intro v' w5 hown' hgrow _ hv')
            have hgrow:(w3.alloc (.cells #[ptrV q] 276)).grownBy w5 u3.ownBlock:=hgrow
            have hv':v'.ownBlock=u3.ownBlock∨v'.ownBlock=some (w3.alloc (.cells #[ptrV q] 276)).heap.size:=hv'
            have G5:=G3.pushed hgrow HOB.out hrlt
            have hm5:=lenAt_rd G5.rd.at_
            refine ⟨⟨done ++ [n],ps ++ [q],false,s2,g,rfl,HND3.out.push HNEW.out hown' hgrow hv',G5,by omega,by simp;omega,by omega, ?_⟩, ?_⟩
            ·show _=_
             rw [HX.out]
             rcases Rx.pieces fold g false s2 with _ | ⟨l,s3⟩
             ·rfl
             ·simp
            ·rw [hm,hm5];simp;omega
theorem bas_all (fold:Bool):∀ L,PlainC fold L∧BasicC fold L:=by
 intro L
 induction L using Nat.strongRecOn with
 | ind L ih=>
  have h1:PlainC fold L:=plain_any fold L fun L' h=>(ih L' h).2
  exact ⟨h1,basic_any fold L h1⟩
end Go.Proofs.YtefpcacnblaokaaGreatDoor.Rg

/-
  The walk of read: the deferred closure, the reader's end. Condition: what is told lies in memory.
-/
set_option maxRecDepth 100000
set_option maxHeartbeats 1600000
namespace Go.Proofs.YtefpcacnblaokaaGreatDoor.Rg
open Go.RowKit Go.Shelf Go.Maps
theorem catch_idle (p:Addr) (w:World) :
  CallsD Tryz.prog 229 #[.pointer (some p)] .returning w fun e u' w'=>e=.returned (.tuple #[])∧u'=.returning∧w'=w:=by
 refine callsD_of_wpS Tryz.func229 rfl fun c₀ cs hu=>?_
 apply wpS_seq
 apply wpS_region
 simp [wpOpsS,go_sem,recoverD,hu,Tryz.ntmps229,Exit.thenS]
 refine wpS_of_wp ?_
 change Code.wp _ _ _ { tmps:=#[.pointer (some p),.nilIface,undef,undef,.nilIface,undef,undef,undef,undef,undef,undef,undef,undef,undef,undef],defers:=[] } _
 go_wp2_with fail
 cases c₀
 simp_all [bodyPostS,results,Tryz.results229]
theorem ta_broken (w:World):(Instr.typeAssert (.iface 345 (.agg #[])) 20 345 true).run Tryz.prog w=.ok (.tuple #[.agg #[],.bool true]) w:=by kernel_rfl
theorem catch_panicking (q:Nat) (x:Value) (older:List PanicEntry) (w:World) (hc:w.cell? ⟨q,0,none⟩=some x) (hz:w.frozen? ⟨q,0,none⟩=false) :
  CallsD Tryz.prog 229 #[.pointer (some ⟨q,0,none⟩)] (.panicking ({ v:=brokenV,recovered:=false } :: older)) w fun e u' w'=>
   e=.returned (.tuple #[])∧u'=.panicking ({ v:=brokenV,recovered:=true } :: older)∧w'=(w.alloc (.cells #[] 345)).setCell ⟨q,0,none⟩ (.pointer none):=by
 refine callsD_of_wpS Tryz.func229 rfl fun c₀ cs hu=>?_
 apply wpS_seq
 apply wpS_region
 simp [wpOpsS,go_sem,recoverD,hu,Tryz.ntmps229,Exit.thenS,brokenV]
 refine wpS_of_wp ?_
 change Code.wp _ _ _ { tmps:=#[.pointer (some ⟨q,0,none⟩),.iface 345 (.agg #[]),undef,undef,.iface 345 (.agg #[]),undef,undef,undef,undef,undef,undef,undef,undef,undef,undef],defers:=[] } _
 have hta:=ta_broken
 have hc2:=new_cell hc (.cells #[] 345)
 have hz2:=new_frozen hc hz (.cells #[] 345)
 go_wp2_with fail
 simp [bodyPostS,results,Tryz.results229]
def ReadPost (B:Nat) (x:Option Rx.Nd) (e:Ending) (w':World):Prop:=match x with
 | none=>e=.returned (.pointer none)
 | some n=>∃ p,e=.returned (.pointer (some ⟨p,0,none⟩))∧NdAt w' B p n
def readEnd (x:Option (Rx.Nd × Rx.Bytes)):Option Rx.Nd:=match x with
 | some (n,[])=>some n
 | _=>none
theorem read_true (r:Nat) (s:Rx.Bytes) (fold:Bool) (w:World) (hr:Rd w r s true fold) :
  Calls Tryz.prog 171 #[.pointer (some ⟨r,0,none⟩)] w fun e w'=>ReadPost w.heap.size (Rx.read s true fold) e w'∧Kept (·=r) w w':=by
 have hmf:∀ (fn:Fn) (first cap:Array Value) (w:World),(Instr.makeFunc fn first cap).run Tryz.prog w=.ok (.func fn first cap) w:=fun _ _ _ _=>rfl
 have HX:Hid (Rx.read s true fold=readEnd (branchesN fold (3 * s.length+4) s)):=by show _=_;rfl
 generalize Rx.read s true fold=RES at HX ⊢
 have G:Go1 w w r s true fold:=⟨hr,Kept.refl _ _⟩
 have hrlt:=hr.lt
 have G0:=G.go (hr.at_.alloc (.cells #[.pointer none] 276)) ((Kept.refl _ _).alloc _) (Nat.le_refl _)
 have hq:=Blk.new w #[.pointer none] 276
 have hqs:(w.alloc (.cells #[.pointer none] 276)).heap.size=w.heap.size+1:=by simp
 have c1:=G0.ext
 have hbc:=(ext_all fold s.length).2.2 s (Nat.le_refl _) (3 * s.length+4) (by omega) r _ G0.rd
 clear hr G
 go_enter_defers Tryz.func171,Tryz.ntmps171
 go_wp2_with fail
 generalize w.alloc (.cells #[.pointer none] 276)=w1 at *
 clear c1
 rcases hx:branchesN fold (3 * s.length+4) s with _ | ⟨n,s1⟩
 ·rw [hx] at hbc HX
  refine hbc.mono ?_
  rintro e w2 ⟨rfl,hk⟩
  have hq2:Blk w2 w.heap.size #[.pointer none] 276:=hq.kept hk (by omega)
  have hK2:=G0.kept.trans hk
  clear hbc hx
  go_wp2_with fail
  refine leaves_cons (f:=229) (args:=#[.pointer (some ⟨w.heap.size,0,none⟩)]) (by simp) (by simp [go_sem]) ?_
  refine (catch_panicking w.heap.size (.pointer none) [] _ (hq2.cell 0 rfl) (hq2.free 0)).mono ?_
  rintro e u' w9 ⟨rfl,rfl,rfl⟩
  have hq9:Blk _ w.heap.size #[.pointer none] 276:=(hq2.alloc (.cells #[] 345)).set 0 (.pointer none)
  have c9:=hq9.cell 0 (v:=.pointer none) rfl
  refine ⟨.pointer none,by simp [results,Tryz.results171,go_sem,c9], ?_⟩
  rw [show RES=none from by rw [HX.out];rfl]
  exact ⟨rfl,(hK2.alloc _).setCell (.inr (Nat.le_refl _)) 0 _⟩
 ·rw [hx] at hbc HX
  refine hbc.mono ?_
  rintro e w2 ⟨⟨p,rfl,hr2,hn2⟩,hk⟩
  have hq2:Blk w2 w.heap.size #[.pointer none] 276:=hq.kept hk (by omega)
  have hq3:Blk (w2.setCell ⟨w.heap.size,0,none⟩ (.pointer (some ⟨p,0,none⟩))) w.heap.size #[.pointer (some ⟨p,0,none⟩)] 276:=hq2.set 0 _
  have cq:=hq2.cell 0 (v:=.pointer none) rfl
  have fq:=hq2.free 0
  have hK3:Kept (·=r) w (w2.setCell ⟨w.heap.size,0,none⟩ (.pointer (some ⟨p,0,none⟩))):=(G0.kept.trans hk).setCell (.inr (Nat.le_refl _)) 0 _
  have hr3:RdAt (w2.setCell ⟨w.heap.size,0,none⟩ (.pointer (some ⟨p,0,none⟩))) r s1 true fold:=hr2.setOther (a:=⟨w.heap.size,0,none⟩) (by show r≠w.heap.size;omega) _
  have HN3:Hid (NdAt (w2.setCell ⟨w.heap.size,0,none⟩ (.pointer (some ⟨p,0,none⟩))) (w.heap.size+1) p n):=by
   have hk3:Kept (·=w.heap.size) w2 (w2.setCell ⟨w.heap.size,0,none⟩ (.pointer (some ⟨p,0,none⟩))):=(Kept.refl (·=w.heap.size) _).setCell (.inl rfl) 0 _
   rw [hqs] at hn2
   exact hn2.kept hk3 fun k hk e=>by omega
  have c0:(w2.setCell ⟨w.heap.size,0,none⟩ (.pointer (some ⟨p,0,none⟩))).cell? ⟨r,0,none⟩=some (.string ⟨s1.toArray⟩):=Blk.cell hr3 0 rfl
  have HK3:=Lib.hid hK3
  have HQ3:=Lib.hid hq3
  clear hbc hx hk hn2 hr2 hr3 hK3 hq3
  cases s1 with
  | cons c t=>
   go_wp2_with fail
   refine (fail_any _).mono ?_
   rintro e w4 ⟨rfl,rfl⟩
   have hq4:=HQ3.out
   go_wp2_with fail
   refine leaves_cons (f:=229) (args:=#[.pointer (some ⟨w.heap.size,0,none⟩)]) (by simp) (by simp [go_sem]) ?_
   refine (catch_panicking w.heap.size (.pointer (some ⟨p,0,none⟩)) [] _ (hq4.cell 0 rfl) (hq4.free 0)).mono ?_
   rintro e u' w9 ⟨rfl,rfl,rfl⟩
   have hq9:Blk _ w.heap.size #[.pointer none] 276:=(hq4.alloc (.cells #[] 345)).set 0 (.pointer none)
   have c9:=hq9.cell 0 (v:=.pointer none) rfl
   refine ⟨.pointer none,by simp [results,Tryz.results171,go_sem,c9], ?_⟩
   rw [show RES=none from by rw [HX.out];rfl]
   exact ⟨rfl,(HK3.out.alloc _).setCell (.inr (Nat.le_refl _)) 0 _⟩
  | nil=>
   have c3:=HQ3.out.cell 0 (v:=.pointer (some ⟨p,0,none⟩)) rfl
   have f3:=HQ3.out.free 0
   go_wp2_with fail
   have hq5:Blk _ w.heap.size #[.pointer (some ⟨p,0,none⟩)] 276:=HQ3.out.set 0 (.pointer (some ⟨p,0,none⟩))
   have c5:=hq5.cell 0 (v:=.pointer (some ⟨p,0,none⟩)) rfl
   refine leaves_cons (f:=229) (args:=#[.pointer (some ⟨w.heap.size,0,none⟩)]) (by simp) (by simp [go_sem]) ?_
   refine (catch_idle ⟨w.heap.size,0,none⟩ _).mono ?_
   rintro e u' w9 ⟨rfl,rfl,rfl⟩
   refine ⟨.pointer (some ⟨p,0,none⟩),by simp [results,Tryz.results171,go_sem,c5], ?_⟩
   have hk5:Kept (·=w.heap.size) (w2.setCell ⟨w.heap.size,0,none⟩ (.pointer (some ⟨p,0,none⟩))) _:=(Kept.refl (·=w.heap.size) _).setCell (.inl rfl) 0 (.pointer (some ⟨p,0,none⟩))
   rw [show RES=some n from by rw [HX.out];rfl]
   exact ⟨⟨p,rfl,(HN3.out.kept hk5 fun k hk e=>by omega).mono fun k hk=>by omega⟩,HK3.out.setCell (.inr (Nat.le_refl _)) 0 _⟩
theorem read_false (r:Nat) (s:Rx.Bytes) (fold:Bool) (w:World) (hr:Rd w r s false fold) :
  Calls Tryz.prog 171 #[.pointer (some ⟨r,0,none⟩)] w fun e w'=>ReadPost w.heap.size (Rx.read s false fold) e w'∧Kept (·=r) w w':=by
 have hmf:∀ (fn:Fn) (first cap:Array Value) (w:World),(Instr.makeFunc fn first cap).run Tryz.prog w=.ok (.func fn first cap) w:=fun _ _ _ _=>rfl
 have HX:Hid (Rx.read s false fold=readEnd (Rx.basic fold (3 * s.length+4) s)):=by show _=_;rfl
 generalize Rx.read s false fold=RES at HX ⊢
 have G:Go1 w w r s false fold:=⟨hr,Kept.refl _ _⟩
 have hrlt:=hr.lt
 have G0:=G.go (hr.at_.alloc (.cells #[.pointer none] 276)) ((Kept.refl _ _).alloc _) (Nat.le_refl _)
 have hq:=Blk.new w #[.pointer none] 276
 have hqs:(w.alloc (.cells #[.pointer none] 276)).heap.size=w.heap.size+1:=by simp
 have c1:=G0.ext
 have hbc:=(bas_all fold s.length).2 s (Nat.le_refl _) (3 * s.length+4) (by omega) r _ G0.rd
 clear hr G
 go_enter_defers Tryz.func171,Tryz.ntmps171
 go_wp2_with fail
 generalize w.alloc (.cells #[.pointer none] 276)=w1 at *
 clear c1
 rcases hx:Rx.basic fold (3 * s.length+4) s with _ | ⟨n,s1⟩
 ·rw [hx] at hbc HX
  refine hbc.mono ?_
  rintro e w2 ⟨rfl,hk⟩
  have hq2:Blk w2 w.heap.size #[.pointer none] 276:=hq.kept hk (by omega)
  have hK2:=G0.kept.trans hk
  clear hbc hx
  go_wp2_with fail
  refine leaves_cons (f:=229) (args:=#[.pointer (some ⟨w.heap.size,0,none⟩)]) (by simp) (by simp [go_sem]) ?_
  refine (catch_panicking w.heap.size (.pointer none) [] _ (hq2.cell 0 rfl) (hq2.free 0)).mono ?_
  rintro e u' w9 ⟨rfl,rfl,rfl⟩
  have hq9:Blk _ w.heap.size #[.pointer none] 276:=(hq2.alloc (.cells #[] 345)).set 0 (.pointer none)
  have c9:=hq9.cell 0 (v:=.pointer none) rfl
  refine ⟨.pointer none,by simp [results,Tryz.results171,go_sem,c9], ?_⟩
  rw [show RES=none from by rw [HX.out];rfl]
  exact ⟨rfl,(hK2.alloc _).setCell (.inr (Nat.le_refl _)) 0 _⟩
 ·rw [hx] at hbc HX
  refine hbc.mono ?_
  rintro e w2 ⟨⟨p,rfl,hr2,hn2⟩,hk⟩
  have hq2:Blk w2 w.heap.size #[.pointer none] 276:=hq.kept hk (by omega)
  have hq3:Blk (w2.setCell ⟨w.heap.size,0,none⟩ (.pointer (some ⟨p,0,none⟩))) w.heap.size #[.pointer (some ⟨p,0,none⟩)] 276:=hq2.set 0 _
  have cq:=hq2.cell 0 (v:=.pointer none) rfl
  have fq:=hq2.free 0
  have hK3:Kept (·=r) w (w2.setCell ⟨w.heap.size,0,none⟩ (.pointer (some ⟨p,0,none⟩))):=(G0.kept.trans hk).setCell (.inr (Nat.le_refl _)) 0 _
  have hr3:RdAt (w2.setCell ⟨w.heap.size,0,none⟩ (.pointer (some ⟨p,0,none⟩))) r s1 false fold:=hr2.setOther (a:=⟨w.heap.size,0,none⟩) (by show r≠w.heap.size;omega) _
  have HN3:Hid (NdAt (w2.setCell ⟨w.heap.size,0,none⟩ (.pointer (some ⟨p,0,none⟩))) (w.heap.size+1) p n):=by
   have hk3:Kept (·=w.heap.size) w2 (w2.setCell ⟨w.heap.size,0,none⟩ (.pointer (some ⟨p,0,none⟩))):=(Kept.refl (·=w.heap.size) _).setCell (.inl rfl) 0 _
   rw [hqs] at hn2
   exact hn2.kept hk3 fun k hk e=>by omega
  have c0:(w2.setCell ⟨w.heap.size,0,none⟩ (.pointer (some ⟨p,0,none⟩))).cell? ⟨r,0,none⟩=some (.string ⟨s1.toArray⟩):=Blk.cell hr3 0 rfl
  have HK3:=Lib.hid hK3
  have HQ3:=Lib.hid hq3
  clear hbc hx hk hn2 hr2 hr3 hK3 hq3
  cases s1 with
  | cons c t=>
   go_wp2_with fail
   refine (fail_any _).mono ?_
   rintro e w4 ⟨rfl,rfl⟩
   have hq4:=HQ3.out
   go_wp2_with fail
   refine leaves_cons (f:=229) (args:=#[.pointer (some ⟨w.heap.size,0,none⟩)]) (by simp) (by simp [go_sem]) ?_
   refine (catch_panicking w.heap.size (.pointer (some ⟨p,0,none⟩)) [] _ (hq4.cell 0 rfl) (hq4.free 0)).mono ?_
   rintro e u' w9 ⟨rfl,rfl,rfl⟩
   have hq9:Blk _ w.heap.size #[.pointer none] 276:=(hq4.alloc (.cells #[] 345)).set 0 (.pointer none)
   have c9:=hq9.cell 0 (v:=.pointer none) rfl
   refine ⟨.pointer none,by simp [results,Tryz.results171,go_sem,c9], ?_⟩
   rw [show RES=none from by rw [HX.out];rfl]
   exact ⟨rfl,(HK3.out.alloc _).setCell (.inr (Nat.le_refl _)) 0 _⟩
  | nil=>
   have c3:=HQ3.out.cell 0 (v:=.pointer (some ⟨p,0,none⟩)) rfl
   have f3:=HQ3.out.free 0
   go_wp2_with fail
   have hq5:Blk _ w.heap.size #[.pointer (some ⟨p,0,none⟩)] 276:=HQ3.out.set 0 (.pointer (some ⟨p,0,none⟩))
   have c5:=hq5.cell 0 (v:=.pointer (some ⟨p,0,none⟩)) rfl
   refine leaves_cons (f:=229) (args:=#[.pointer (some ⟨w.heap.size,0,none⟩)]) (by simp) (by simp [go_sem]) ?_
   refine (catch_idle ⟨w.heap.size,0,none⟩ _).mono ?_
   rintro e u' w9 ⟨rfl,rfl,rfl⟩
   refine ⟨.pointer (some ⟨p,0,none⟩),by simp [results,Tryz.results171,go_sem,c5], ?_⟩
   have hk5:Kept (·=w.heap.size) (w2.setCell ⟨w.heap.size,0,none⟩ (.pointer (some ⟨p,0,none⟩))) _:=(Kept.refl (·=w.heap.size) _).setCell (.inl rfl) 0 (.pointer (some ⟨p,0,none⟩))
   rw [show RES=some n from by rw [HX.out];rfl]
   exact ⟨⟨p,rfl,(HN3.out.kept hk5 fun k hk e=>by omega).mono fun k hk=>by omega⟩,HK3.out.setCell (.inr (Nat.le_refl _)) 0 _⟩
theorem read_any (r:Nat) (s:Rx.Bytes) (ext fold:Bool) (w:World) (hr:Rd w r s ext fold) :
  Calls Tryz.prog 171 #[.pointer (some ⟨r,0,none⟩)] w fun e w'=>ReadPost w.heap.size (Rx.read s ext fold) e w'∧Kept (·=r) w w':=by
 cases ext with
 | true=>exact read_true r s fold w hr
 | false=>exact read_false r s fold w hr
end Go.Proofs.YtefpcacnblaokaaGreatDoor.Rg

/-
  The walks of size, Size, Parse. Condition: what is told lies in memory.
-/
set_option maxRecDepth 100000
set_option maxHeartbeats 1600000
namespace Go.Proofs.YtefpcacnblaokaaGreatDoor.Rg
open Go.RowKit Go.Shelf Go.Maps
def sumOf (zs:List Nat):Nat:=zs.foldl (fun a z=>min 20000 (a+z)) 0
theorem sumOf_le (zs:List Nat):∀ a,a≤20000→zs.foldl (fun a z=>min 20000 (a+z)) a≤20000:=by
 induction zs with
 | nil=>intro a h;exact h
 | cons z r ih=>intro a _;exact ih _ (Nat.min_le_left _ _)
theorem sumOf_le' (zs:List Nat):sumOf zs≤20000:=sumOf_le zs 0 (by decide)
theorem sumOf_take (zs:List Nat) (i:Nat) (hi:i < zs.length):sumOf (zs.take (i+1))=min 20000 (sumOf (zs.take i)+zs.getD i 0):=by
 unfold sumOf
 rw [List.take_succ_eq_append_getElem hi,List.foldl_append]
 simp [List.getD_eq_getElem?_getD,List.getElem?_eq_getElem hi]
def finOf (kind mn mx:Int) (s:Nat):Nat:=if kind=6 then min 20000 (s * (max 1 (if mx < 0 then mn else mx)).toNat+1) else min 20000 (s+1)
theorem fin6 (sm:Nat) (t:Int) (h1:1≤t) (h2:t≤255) (hs:sm≤20000):min 20000 (wrap64 (wrap64 ((sm:Int) * t)+1))=((min 20000 (sm * t.toNat+1):Nat):Int):=by
 obtain ⟨n,rfl⟩:∃ n:Nat,t=n:=⟨t.toNat,by omega⟩
 have h3:sm * n≤20000 * 255:=Nat.mul_le_mul hs (by omega)
 rw [Int.toNat_natCast,← Int.natCast_mul]
 generalize sm * n=q at *
 unfold wrap64
 omega
theorem size_core (w:World) (p k len cap:Nat) (a:Option Addr) (kind mn mx:Int) (h:Rx.Has) (ps zs:List Nat) (hb:Blk w p (ndCells kind h mn mx (.slice a len cap)) 349)
  (ha:0 < len→a=some ⟨k,0,none⟩) (hlc:len≤cap) (hl:len≤1073741824) (hps:Ptrs w k ps) (hpl:ps.length=len) (hzl:zs.length=len) (hz:∀ i,i < len→zs.getD i 0≤20000)
  (hmn:-1≤mn∧mn≤255) (hmx:-1≤mx∧mx≤255)
  (hc:∀ i,i < len→Calls Tryz.prog 172 #[.pointer (some ⟨ps.getD i 0,0,none⟩)] w fun e w'=>e=.returned (.int .i64 (zs.getD i 0))∧w'=w) :
  Calls Tryz.prog 172 #[.pointer (some ⟨p,0,none⟩)] w fun e w'=>e=.returned (.int .i64 (finOf kind mn mx (sumOf zs)))∧w'=w:=by
 have c0:=hb.cell 0 (nd_kind _ _ _ _ _)
 have c1:=hb.cell 257 (nd_min _ _ _ _ _)
 have c2:=hb.cell 258 (nd_max _ _ _ _ _)
 have c3:=hb.cell 259 (nd_kids _ _ _ _ _)
 have HPS:=Lib.hid hps
 have HC:=Lib.hid hc
 have HZ:=Lib.hid hz
 have HA:=Lib.hid ha
 clear hps hc hb hz ha
 go_enter Tryz.func172,Tryz.ntmps172
 go_wp2_with fail
 go_loop [3,5,12] (fun x3 _x5 x12=>∃ i:Nat,i≤len∧x12=.int .i64 i∧x3=.int .i64 (sumOf (zs.take i))) (fun _ _ x12=>len - (intOf x12).toNat)
 case atStart=>exact ⟨0,Nat.zero_le _,rfl,rfl⟩
 case round=>
  obtain ⟨i,hi,rfl,rfl⟩:=hrel
  have hs20:=sumOf_le' (zs.take i)
  by_cases hlt:i < len
  ·obtain rfl:=HA.out (by omega)
   have cq:=HPS.out i (by omega)
   have hcall:=HC.out i hlt
   have hz20:=HZ.out i hlt
   have HST:=Lib.hid (sumOf_take zs i (by omega))
   generalize zs.getD i 0=z at *
   generalize ps.getD i 0=q at *
   generalize sumOf (zs.take i)=sm at *
   go_wp2_with fail
   refine hcall.mono ?_
   rintro e w' ⟨rfl,rfl⟩
   go_wp2_with fail
   refine ⟨⟨i+1,by omega,by go_num, ?_⟩, ?_⟩
   ·rw [HST.out];congr 1;omega
   ·show len - ((i:Int)+1).toNat < len - (i:Int).toNat
    omega
  ·obtain rfl:i=len:=by omega
   rw [List.take_of_length_le (by omega)] at hs20 ⊢
   by_cases h6:kind=6
   ·subst h6
    generalize hsm:sumOf zs=sm at *
    go_wp2_with fail
    ·have hneg:mx < 0:=by omega
     go_ret
     refine ⟨ret_int ?_,rfl⟩
     rw [fin6 sm (max 1 mn) (by omega) (by omega) hs20]
     unfold finOf
     rw [if_pos rfl,if_pos hneg]
    ·have hneg:¬ mx < 0:=by omega
     go_ret
     refine ⟨ret_int ?_,rfl⟩
     rw [fin6 sm (max 1 mx) (by omega) (by omega) hs20]
     unfold finOf
     rw [if_pos rfl,if_neg hneg]
   ·have HF:Hid (finOf kind mn mx (sumOf zs)=min 20000 (sumOf zs+1)):=if_neg h6
    generalize hsm:sumOf zs=sm at *
    have h6':(kind == 6)=false:=by simpa using h6
    go_wp2_with fail
    go_ret
    refine ⟨ret_int ?_,rfl⟩
    rw [HF.out];omega
theorem sizes_fold (l:List Rx.Nd):∀ a,Rx.sizes l a=(l.map Rx.Nd.size).foldl (fun a z=>min 20000 (a+z)) a:=by
 induction l with
 | nil=>intro a;rfl
 | cons x r ih=>intro a;simp only [Rx.sizes,List.map_cons,List.foldl_cons];exact ih _
theorem size_le (n:Rx.Nd):n.size≤20000:=by
 cases n <;> simp only [Rx.Nd.size] <;> omega
theorem size_any {M:Nat→Prop} {w:World} {p:Nat} {n:Rx.Nd} (h:NdIn w M p n) :
  Calls Tryz.prog 172 #[.pointer (some ⟨p,0,none⟩)] w fun e w'=>e=.returned (.int .i64 n.size)∧w'=w:=by
 have lone:∀ (p:Nat) (kind:Int) (hh:Rx.Has),kind≠6→Blk w p (ndCells kind hh 0 0 (.slice none 0 0)) 349 →
   Calls Tryz.prog 172 #[.pointer (some ⟨p,0,none⟩)] w fun e w'=>e=.returned (.int .i64 ((1:Nat):Int))∧w'=w:=by
  intro p kind hh hk hb
  have:=size_core w p 0 0 0 none kind 0 0 hh [] [] hb (fun h=>absurd h (by decide)) (Nat.le_refl _) (by decide) (fun i hi=>absurd hi (Nat.not_lt_zero i)) rfl rfl (fun i hi=>absurd hi (Nat.not_lt_zero i)) (by decide) (by decide) (fun i hi=>absurd hi (Nat.not_lt_zero i))
  rw [show finOf kind 0 0 (sumOf [])=1 by unfold finOf;rw [if_neg hk];rfl] at this
  exact this
 have listed:∀ (p k c:Nat) (kind:Int) (l:List Rx.Nd) (ps:List Nat),kind≠6→Blk w p (ndCells kind noHas 0 0 (.slice (some ⟨k,0,none⟩) l.length c)) 349→l.length≤c∧l.length≤1073741824→ps.length=l.length→Ptrs w k ps →
   (∀ i,i < l.length→Calls Tryz.prog 172 #[.pointer (some ⟨ps.getD i 0,0,none⟩)] w fun e w'=>e=.returned (.int .i64 (l.getD i .empty).size)∧w'=w) →
   Calls Tryz.prog 172 #[.pointer (some ⟨p,0,none⟩)] w fun e w'=>e=.returned (.int .i64 ((min 20000 (Rx.sizes l 0+1):Nat):Int))∧w'=w:=by
  intro p k c kind l ps hk hb hc hl hps hn
  have hg:∀ i,i < l.length→(l.map Rx.Nd.size).getD i 0=(l.getD i .empty).size:=fun i hi=>by simp [List.getD_eq_getElem?_getD,List.getElem?_eq_getElem hi]
  have:=size_core w p k l.length c _ kind 0 0 noHas ps (l.map Rx.Nd.size) hb (fun _=>rfl) hc.1 hc.2 hps hl (by simp) (fun i hi=>by rw [hg i hi];exact size_le _) (by decide) (by decide) (fun i hi=>by rw [hg i hi];exact hn i hi)
  rw [show finOf kind 0 0 (sumOf (l.map Rx.Nd.size))=min 20000 (Rx.sizes l 0+1) by unfold finOf;rw [if_neg hk,sizes_fold];rfl] at this
  exact this
 induction h with
 | empty hp hb=>exact lone _ 0 _ (by decide) hb
 | set hp hb=>exact lone _ 1 _ (by decide) hb
 | beg hp hb=>exact lone _ 2 _ (by decide) hb
 | fin hp hb=>exact lone _ 3 _ (by decide) hb
 | cat hp hb h0 hc hk' hl hps _ ih=>exact listed _ _ _ 4 _ _ (by decide) hb hc hl hps ih
 | alt hp hb h0 hc hk' hl hps _ ih=>exact listed _ _ _ 5 _ _ (by decide) hb hc hl hps ih
 | rep hp hb hk' hps _ hm ih=>
  rename_i p k q m most n _
  have q1:∀ i,i < 1→[n.size].getD i 0≤20000:=by
   intro i hi;have h0:i=0:=Nat.lt_one_iff.1 hi;subst h0;exact size_le _
  have q2:∀ i,i < 1→Calls Tryz.prog 172 #[.pointer (some ⟨[q].getD i 0,0,none⟩)] w fun e w'=>e=.returned (.int .i64 ([n.size].getD i 0))∧w'=w:=by
   intro i hi;have h0:i=0:=Nat.lt_one_iff.1 hi;subst h0;exact ih
  have:=size_core w p k 1 1 _ 6 m most noHas [q] [n.size] hb (fun _=>rfl) (Nat.le_refl _) (by decide) hps rfl rfl q1 (by omega) hm.2 q2
  have e:finOf 6 m most (sumOf [n.size])=(Rx.Nd.rep m most n).size:=by
   unfold finOf sumOf
   rw [if_pos rfl]
   simp only [Rx.Nd.size,List.foldl_cons,List.foldl_nil,Nat.zero_add]
   congr 3
   by_cases h:most < 0
   ·rw [if_pos h,if_pos h];omega
   ·rw [if_neg h,if_neg h];omega
  rw [e] at this
  exact this
end Go.Proofs.YtefpcacnblaokaaGreatDoor.Rg

/-
  The walk of Parse. Conditions: the text is shorter than 2^30 bytes; the library's variables hold what they hold.
-/
set_option maxRecDepth 100000
set_option maxHeartbeats 1600000
namespace Go.Proofs.YtefpcacnblaokaaGreatDoor.Rg
open Go.RowKit Go.Shelf Go.Maps
def ReAt (w:World) (B q:Nat) (n:Rx.Nd):Prop:=∃ p,Blk w q #[ptrV p] 279∧B≤q∧NdAt w B p n
theorem ReAt.kept {S:Nat→Prop} {w w':World} {B q:Nat} {n:Rx.Nd} (h:ReAt w B q n) (hk:Kept S w w') (hS:∀ k,B≤k→¬ S k):ReAt w' B q n:=by
 obtain ⟨p,hb,hq,hn⟩:=h
 exact ⟨p,hb.kept hk (hS q hq),hq,hn.kept hk hS⟩
theorem ReAt.keep {w w':World} {B B' q:Nat} {n:Rx.Nd} (h:ReAt w B q n) (hb:Below w.heap.size w w') (hB:B'≤B):ReAt w' B' q n:=by
 obtain ⟨p,h1,hq,hn⟩:=h.kept (Kept.of_below (S:=fun _=>False) hb) (fun _ _ h=>h)
 exact ⟨p,h1,Nat.le_trans hB hq,hn.mono fun k hk=>Nat.le_trans hB hk⟩
def ParsePost (B:Nat) (x:Option Rx.Nd) (e:Ending) (w':World):Prop:=match x with
 | none=>e=.returned (.tuple #[.pointer none,.int .i64 20])
 | some n=>if 10000 < n.size then e=.returned (.tuple #[.pointer none,.int .i64 12])
  else ∃ q,e=.returned (.tuple #[.pointer (some ⟨q,0,none⟩),.int .i64 0])∧ReAt w' B q n
theorem Parse_any (s:Rx.Bytes) (ext fold:Bool) (w:World) (hg:Glo w) (h8:8≤w.heap.size) (hl:s.length < 1073741824) :
  Calls Tryz.prog 105 #[.string ⟨s.toArray⟩,.bool ext,.bool fold] w fun e w'=>ParsePost w.heap.size (Rx.read s ext fold) e w'∧Below w.heap.size w w':=by
 have HP:Hid (∀ x,Rx.read s ext fold=x→∀ e w',ParsePost w.heap.size x e w'→ParsePost w.heap.size (Rx.read s ext fold) e w'):=by
  rintro x rfl e w' h;exact h
 generalize hpost:ParsePost w.heap.size (Rx.read s ext fold)=POST at HP ⊢
 clear hpost
 have hk:Kept (·=w.heap.size) w (w.alloc (.cells #[.string ⟨s.toArray⟩,.bool ext,.bool fold] 275)):=(Kept.refl _ _).alloc _
 have hsz:(w.alloc (.cells #[.string ⟨s.toArray⟩,.bool ext,.bool fold] 275)).heap.size=w.heap.size+1:=by simp
 have hr:Rd (w.alloc (.cells #[.string ⟨s.toArray⟩,.bool ext,.bool fold] 275)) w.heap.size s ext fold:=
  ⟨Blk.new _ _ _,hg.kept hk (fun k e=>e ▸ h8) h8,h8,hl⟩
 have hread:=read_any _ s ext fold _ hr
 go_enter Tryz.func105,Tryz.ntmps105
 go_wp2_with fail
 generalize w.alloc (.cells #[.string ⟨s.toArray⟩,.bool ext,.bool fold] 275)=w1 at *
 have below_of:∀ w',Kept (·=w.heap.size) w1 w'→Below w.heap.size w w':=fun w' h=>((hk.trans h).mono (T:=fun _=>False) fun k hk e=>by omega).below
 have HBL:=Lib.hid below_of
 clear below_of
 refine hread.mono ?_
 rintro e w2 ⟨h1,hk2⟩
 clear hread
 cases hx:Rx.read s ext fold with
 | none=>
  rw [hx] at h1
  have h1:e=_:=h1
  subst h1
  have HX:=Lib.hid hx
  clear hx
  go_wp2_with fail
  go_ret2
  exact ⟨HP.out _ HX.out _ _ rfl,HBL.out _ hk2⟩
 | some n=>
  rw [hx] at h1
  obtain ⟨p,rfl,hn⟩:=h1
  have HX:=Lib.hid hx
  have hsize:=size_any hn
  clear hx
  by_cases hbig:10000 < n.size
  ·have hbig2:(10000:Int) < (n.size:Int):=by omega
   have HB:=Lib.hid hbig
   clear hbig
   go_wp2_with fail
   refine hsize.mono ?_
   rintro e w3 ⟨rfl,rfl⟩
   go_wp2_with fail
   go_ret2
   refine ⟨HP.out _ HX.out _ _ ?_,HBL.out _ hk2⟩
   show if _ then _ else _
   rw [if_pos HB.out]
   rfl
  ·have hbig2:¬ ((10000:Int) < (n.size:Int)):=by omega
   have HB:=Lib.hid hbig
   clear hbig
   go_wp2_with fail
   refine hsize.mono ?_
   rintro e w3 ⟨rfl,rfl⟩
   go_wp2_with fail
   go_ret2
   refine ⟨HP.out _ HX.out _ _ ?_,(HBL.out _ hk2).alloc (by have:=(HBL.out _ hk2).size;omega) _⟩
   show if _ then _ else _
   rw [if_neg HB.out]
   have hb3:=(HBL.out _ hk2).size
   exact ⟨_,rfl,p,Blk.new _ _ _,hb3,(hn.kept ((Kept.refl (fun _=>False) _).alloc _) fun _ _ h=>h).mono fun k hk=>by omega⟩
end Go.Proofs.YtefpcacnblaokaaGreatDoor.Rg
