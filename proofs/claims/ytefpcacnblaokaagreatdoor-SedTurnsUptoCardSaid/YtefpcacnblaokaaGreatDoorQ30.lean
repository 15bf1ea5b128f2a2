/-
  Texts of this seat put together: Sd36, Sd37, OptSpec.
-/
import Derived.Test.YtefpcacnblaokaaGreatDoorQ29
import Derived.Lib.Small

/-
  Where an expression is found (bounds); the walk of what a replacement puts in. Conditions: the pieces and what was found lie in memory.
-/
set_option maxRecDepth 100000
set_option maxHeartbeats 4000000
namespace Go.Proofs.YtefpcacnblaokaaGreatDoor
open Go.RowKit Go.Shelf Go.Maps
theorem run_bd (P:List Rg.Mx.St) (b:Bts) (lo:Nat):∀ (f at_:Nat) (now next:Rg.Mx.Run) (last:Option Nat) (z:Nat),lo≤at_→at_≤b.length→(∀ y,last=some y→lo≤y∧y≤b.length)→Rg.Mx.run P b f at_ now next last=some z→lo≤z∧z≤b.length:=by
 intro f
 induction f with
 | zero=>intro at_ now next last z _ _ h2 h;exact h2 z h
 | succ f ih=>
  intro at_ now next last z h0 h1 h2 h
  unfold Rg.Mx.run at h
  split at h
  ·exact h2 z h
  ·have hq:∀ y,(Rg.Mx.round P b at_ now.l ⟨[],next.has⟩ last).2=some y→lo≤y∧y≤b.length:=by
    intro y hy
    rcases Rg.Mx.round_ge P b at_ now.l ⟨[],next.has⟩ last with hr | hr
    ·rw [hr] at hy;injection hy with hy;omega
    ·rw [hr] at hy;exact h2 y hy
   simp only at h
   split at h
   ·exact hq z h
   ·exact ih _ _ _ _ _ (by omega) (by omega) hq h
theorem findF_bd (P:List Rg.Mx.St) (start:Nat) (b:Bts):∀ (f a x y:Nat),Rg.Mx.findF P start b f a=some (x,y)→a≤x∧x≤y∧y≤b.length:=by
 intro f
 induction f with
 | zero=>intro a x y h;cases h
 | succ f ih=>
  intro a x y h
  unfold Rg.Mx.findF at h
  split at h
  ·cases h
  ·rename_i hle
   cases hl:Rg.Mx.longest P start b a with
   | none=>
    rw [hl] at h
    obtain ⟨h1,h2⟩:=ih _ _ _ h
    exact ⟨by omega,h2⟩
   | some z=>
    rw [hl] at h
    injection h with h
    injection h with h1 h2
    subst h1
    subst h2
    unfold Rg.Mx.longest at hl
    exact ⟨Nat.le_refl _,run_bd P b a _ _ _ _ _ _ (Nat.le_refl _) (by omega) (fun y hy=>by cases hy) hl⟩
theorem rxFind_bd {b pat:Bts} {a x y:Nat} (h:Sd.rxFind b pat a=some (x,y)):a≤x∧x≤y∧y≤pat.length:=findF_bd _ _ _ _ _ _ _ h
theorem replaced_len (found:Bts):∀ l:List Sd.Pc,(Sd.replaced found l).length≤l.length * (found.length+1)
 | []=>by simp [Sd.replaced]
 | p :: r=>by
  rw [Sd.replaced,List.length_append,List.length_cons,Nat.add_mul,Nat.one_mul]
  have:=replaced_len found r
  split
  ·omega
  ·simp only [List.length_cons,List.length_nil];omega
theorem replaced_step (found:Bts) (l:List Sd.Pc) (i:Nat) (hi:i < l.length):Sd.replaced found (l.drop i)=(if (l[i]).found then found else [(l[i]).c]) ++ Sd.replaced found (l.drop (i+1)):=by
 rw [List.drop_eq_getElem_cons hi,Sd.replaced]
theorem replaced_any {S:Nat→Prop} (qi:Nat) (x:Sd.Cmd) (pf:Option Addr) (cf:Nat) (found:Bts) (w:World) (hc:CmdAt w S qi x) (hbf:Bs w pf found) (hfl:found.length≤200000) (hrl:x.rep.length≤1000) :
  Calls Tryz.prog 221 #[.pointer (some ⟨qi,0,none⟩),.slice pf found.length cf] w fun e w'=>∃ v,e=.returned v∧w'.ownsRow w.heap.size 5 1 v (Sd.replaced found x.rep).length ((Sd.replaced found x.rep).map u8V)∧Below w.heap.size w w':=by
 obtain ⟨av,re,rv,hcb,-,-,hpc,htl⟩:=hc
 have c8:=Blk.cell hcb 263 (cm_rep htl)
 have hR:=replaced_len found x.rep
 have hmul:x.rep.length * (found.length+1)≤1000 * 200001:=Nat.mul_le_mul hrl (by omega)
 generalize hRe:Sd.replaced found x.rep=RR at *
 have hsh:∃ p c,rv=.slice p x.rep.length c:=by
  rcases hpc.1.2 with ⟨e,e2⟩ | ⟨g,cap,cs,e,-⟩
  ·exact ⟨_,_,by rw [e,e2]⟩
  ·exact ⟨_,_,e⟩
 obtain ⟨pr,cr,rfl⟩:=hsh
 have HPC:=Lib.hid hpc.1
 have HBF:=Lib.hid hbf
 have HRE:=Lib.hid hRe
 clear hcb hbf hpc hRe
 go_enter Tryz.func221,Tryz.ntmps221
 go_wp2_with fail
 go_loopw [5,7,13] (fun x5 _ x13 wr=>∃ (j:Nat) (acc:Bts),x13=.int .i64 j∧j≤x.rep.length∧Hid (wr.ownsRow w.heap.size 5 1 x5 acc.length (acc.map u8V))∧Hid (Below w.heap.size w wr)∧Hid (acc ++ Sd.replaced found (x.rep.drop j)=RR)) (fun _ _ x13 _=>x.rep.length - (intOf x13).toNat)
 case atStart=>exact ⟨0,[],rfl,Nat.zero_le _,Lib.hid (World.ownsRow_nil _ _ _ _),Lib.hid (Below.refl _ _),HRE⟩
 case round=>
  obtain ⟨j,acc,rfl,hj,HO,HB,HE⟩:=hrel
  by_cases hlt:j < x.rep.length
  ·obtain ⟨n,hn⟩:∃ n,x.rep.length=n+1:=⟨x.rep.length - 1,by omega⟩
   have hpr:∃ g,pr=some ⟨g,0,none⟩:=by
    have ho2:=HPC.out
    rw [hn] at ho2
    obtain ⟨g,c,e⟩:=own_slice ho2
    injection e with e
    exact ⟨g,e⟩
   obtain ⟨g,rfl⟩:=hpr
   have hcell:∀ k u,k < 2→(pcCells (x.rep[j]))[k]?=some u→wr.cell? ⟨g,2 * j+k,none⟩=some u:=fun k u hk hu=>by
    have h5:=HPC.out.cells (g:=g) rfl (2 * j+k) u (by rw [flat_get pcCells 2 (fun _=>rfl) x.rep j k hk,List.getElem?_eq_getElem hlt];exact hu)
    rw [addr_add] at h5
    exact (HB.out.cell (p:=⟨g,2 * j+k,none⟩) (World.block_lt_of_cell? _ _ h5)).trans h5
   have e0:wr.cell? ⟨g,j * 2,none⟩=some (.bool (x.rep[j]).found):=by
    have:=hcell 0 _ (by decide) rfl
    rw [show 2 * j+0=j * 2 by omega] at this
    exact this
   have e1:wr.cell? ⟨g,j * 2+1,none⟩=some (.int .u8 (x.rep[j]).c.toNat):=by
    have:=hcell 1 _ (by decide) rfl
    rw [show 2 * j+1=j * 2+1 by omega] at this
    exact this
   have hstep:=replaced_step found x.rep j hlt
   have hacc:acc.length+(if (x.rep[j]).found then found else [(x.rep[j]).c]).length≤RR.length:=by
    rw [← HE.out,hstep]
    simp only [List.length_append]
    omega
   generalize hpj:x.rep[j]=pj at *
   have hw1:IntKind.i64.wrap ((j:Int)+1)=(j:Int)+1:=wrap_i64 (by omega) (by omega)
   have hlt2:(j:Int) < (x.rep.length:Int):=by omega
   obtain ⟨w1,hw1'⟩:∃ w1,wr.alloc (.cells #[.bool pj.found,.int .u8 pj.c.toNat] 229)=w1:=⟨_,rfl⟩
   have hb1:Below w.heap.size w w1:=by rw [← hw1'];exact HB.out.alloc HB.out.size _
   have ho1:w1.ownsRow w.heap.size 5 1 u5 acc.length (acc.map u8V):=by rw [← hw1'];exact HO.out.alloc _
   have hk1:Blk w1 wr.heap.size #[.bool pj.found,.int .u8 pj.c.toNat] 229:=by rw [← hw1'];exact Blk.new _ _ _
   have s0:=hk1.cell 0 (v:=.bool pj.found) rfl
   have s1:=hk1.cell 1 (v:=.int .u8 pj.c.toNat) rfl
   have HS:=Lib.hid hstep
   have HW:=Lib.hid hw1'
   have HO1:=Lib.hid ho1
   have HB1:=Lib.hid hb1
   clear hcell hn hpj hstep hw1' hb1 ho1 hk1
   cases hfo:pj.found with
   | true=>
    rw [hfo] at s0
    have hacc2:acc.length+found.length≤RR.length:=by rw [hfo] at hacc;exact hacc
    have bs:=HBF.out.below HB1.out (Nat.le_refl _)
    have hfo2:=Lib.hid hfo
    clear hacc hfo
    go_upto_region 5 with fail
    rw [hfo2.out] at HW
    rw [hfo2.out,HW.out]
    go_wp2_with (at_builtin;refine append_bytes rfl _ _ rfl w.heap.size _ acc.length (acc.map u8V) rfl HO1.out pf found cf rfl bs (by omega) HB1.out.size ?_;intro v' w5 ho5 hg5 hv5)
    have hb5:Below w.heap.size w w5:=HB1.out.grown hg5 HB1.out.size fun k e=>(HO1.out.lt k e).1
    go_wp2_with fail
    exact ⟨⟨j+1,acc ++ found,by go_num,by omega,Lib.hid (by rw [List.length_append,List.map_append];exact ho5),Lib.hid hb5,Lib.hid (by rw [← HE.out,HS.out,hfo2.out,if_pos rfl,List.append_assoc])⟩,by show x.rep.length - ((j:Int)+1).toNat < x.rep.length - (j:Int).toNat;omega⟩
   | false=>
    rw [hfo] at s0
    have hacc2:acc.length+1≤RR.length:=by rw [hfo] at hacc;exact hacc
    obtain ⟨w2,hw2⟩:∃ w2,w1.alloc (.cells #[.int .u8 pj.c.toNat] 5)=w2:=⟨_,rfl⟩
    have hb12:Below w1.heap.size w1 w2:=by rw [← hw2];exact (Below.refl _ _).alloc (Nat.le_refl _) _
    have HB2:=Lib.hid (HB1.out.trans (hb12.mono HB1.out.size))
    have HO2:Hid (w2.ownsRow w.heap.size 5 1 u5 acc.length (acc.map u8V)):=Lib.hid (by rw [← hw2];exact HO1.out.alloc _)
    have bs:Bs w2 (some ⟨w1.heap.size,0,none⟩) [pj.c]:=by rw [← hw2];exact bs_one w1 pj.c _
    have hfo2:=Lib.hid hfo
    have HW2:=Lib.hid hw2
    clear hacc hfo hb12 hw2
    go_upto_region 5 with fail
    rw [hfo2.out] at HW
    rw [hfo2.out,HW.out]
    go_wp2_with (at_builtin;rw [HW2.out];refine append_bytes rfl _ _ rfl w.heap.size _ acc.length (acc.map u8V) rfl HO2.out (some ⟨w1.heap.size,0,none⟩) [pj.c] 1 rfl bs (by simp;omega) HB2.out.size ?_;intro v' w5 ho5 hg5 hv5)
    have hb5:Below w.heap.size w w5:=HB2.out.grown hg5 HB2.out.size fun k e=>(HO2.out.lt k e).1
    go_wp2_with fail
    exact ⟨⟨j+1,acc ++ [pj.c],by go_num,by omega,Lib.hid (by rw [List.length_append,List.map_append];exact ho5),Lib.hid hb5,Lib.hid (by rw [← HE.out,HS.out,hfo2.out,if_neg (by decide),List.append_assoc])⟩,by show x.rep.length - ((j:Int)+1).toNat < x.rep.length - (j:Int).toNat;omega⟩
  ·obtain rfl:j=x.rep.length:=by omega
   have hE:=HE.out
   rw [List.drop_length,Sd.replaced,List.append_nil] at hE
   subst hE
   have HO2:=HO
   go_wp2_with fail
   go_ret
   exact ⟨_,rfl,HO.out,HB.out⟩
end Go.Proofs.YtefpcacnblaokaaGreatDoor

/-
  The walk of the letter s. Conditions: the machine lies in memory; an expression that is ready; a short replacement, without p.
-/
set_option maxRecDepth 100000
set_option maxHeartbeats 16000000
namespace Go.Proofs.YtefpcacnblaokaaGreatDoor
open Go.RowKit Go.Shelf Go.Maps
variable {W W':World} {F:Fx} {m:Mfx} {U R:Nat→Prop} {k:Nat} {c c':Mcl} {o:Option Int} {inp out:Bts} {failed:Bool}
def cutP (p:Option Addr) (cap k:Nat):Option Addr:=if cap=k then p else p.map (·.add k)
theorem Bs.cut {w:World} {p:Option Addr} {xs:Bts} {cap k:Nat} (h:Bs w p xs) (hc:xs.length≤cap) (hk:k≤xs.length) (n:Nat):Bs w (cutP p cap k) ((xs.drop k).take n):=by
 intro hl
 simp at hl
 obtain ⟨b,o,rfl,hcell⟩:=h (by omega)
 refine ⟨b,o+k, ?_,fun i hi=>?_⟩
 ·unfold cutP
  rw [if_neg (by omega)]
  simp only [Option.map_some,Addr.add]
  split <;> simp_all
 ·simp at hi
  have:=hcell (k+i) (by omega)
  rw [← Nat.add_assoc] at this
  rw [this,getD_take _ _ _ (by omega),getD_drop]
theorem run_cut (p:Option Addr) (n cap k:Nat) (hk:k≤n) (w:World) :
  (Instr.slice 22 (.slice p n cap) (some (.int .i64 k)) none none).run Tryz.prog w=.ok (.slice (cutP p cap k) (n - k) (cap - k)) w:=by
 have ht:=run_underlying Tryz.underlying22 (w:=w)
 simp [Instr.slice,Instr.sliceBounds,Instr.sliceBound,go_sem,hk,cutP]
theorem run_cut2 (p:Option Addr) (n cap k m:Nat) (hk:k≤m) (hm:m≤cap) (w:World) :
  (Instr.slice 22 (.slice p n cap) (some (.int .i64 k)) (some (.int .i64 m)) none).run Tryz.prog w=.ok (.slice (cutP p cap k) (m - k) (cap - k)) w:=by
 simp [Instr.slice,Instr.sliceBounds,Instr.sliceBound,go_sem,hk,hm,cutP]
theorem InAt.away {b ib:Nat} {tot:Bts} (h:InAt W F U R ib k tot out failed) (hk:Kept (fun j=>j=b) W W') (hU:U b) {v:Value} (hv:∀ g,v.ownBlock=some g→W.heap.size≤g∧g < W'.heap.size):InAt W' F (fun j=>U j∨v.ownBlock=some j) R ib k tot out failed:=by
 have hlt:=(h.u0 b hU).2.2.2
 obtain ⟨ob,hob⟩:∃ ob,W.heap[b]?=some ob:=⟨_,Array.getElem?_eq_getElem hlt⟩
 obtain ⟨W1,hW1⟩:∃ W1:World,{ W' with heap:=W'.heap.setIfInBounds b ob }=W1:=⟨_,rfl⟩
 have h1:Below W.heap.size W W1:=by
  rw [← hW1]
  refine ⟨hk.os,hk.tape,hk.output,by simpa using hk.size,fun i hi=>?_⟩
  show (W'.heap.setIfInBounds b ob)[i]?=_
  rw [Array.getElem?_setIfInBounds]
  split
  ·rename_i e
   subst e
   rw [if_pos (Nat.lt_of_lt_of_le hlt hk.size)]
   exact hob.symm
  ·rename_i e
   exact hk.block i hi fun e2=>e e2.symm
 have h2:Kept (fun j=>j=b) W1 W':=by
  rw [← hW1]
  refine ⟨rfl,rfl,rfl,by simp,fun i hi hn=>?_⟩
  show _=(W'.heap.setIfInBounds b ob)[i]?
  rw [Array.getElem?_setIfInBounds,if_neg fun e=>hn e.symm]
 exact (h.more_v h1 fun g e=>⟨(hv g e).1,by rw [← hW1];simpa using (hv g e).2⟩).kept h2 fun _ e=>.inl (e ▸ hU)
theorem MacAt.away (h:MacAt W F m U R k c o inp out failed) (hk:Kept (fun j=>j=m.mb) W W') (hb:Blk W' m.mb (mcArr F m c') 218) {v:Value} (hv:∀ g,v.ownBlock=some g→W.heap.size≤g∧g < W'.heap.size):MacAt W' F m (fun j=>U j∨v.ownBlock=some j) R k c' o inp out failed:=
 h.move hk hb (h.ina.away hk h.um.1 hv) (fun _ h=>.inl h) (fun _ hj=>.inl hj) fun j hj=>hj.elim .inl fun h=>.inr (h.elim .inl fun e=>.inr (hv j e).1)
theorem MacAt.away0 (h:MacAt W F m U R k c o inp out failed) (hk:Kept (fun j=>j=m.mb) W W') (hb:Blk W' m.mb (mcArr F m c') 218):MacAt W' F m U R k c' o inp out failed:=
 h.move hk hb (h.ina.kept hk fun _ e=>e ▸ h.um.1) (fun _ h=>h) (fun _ hj=>.inl hj) fun _ hj=>hj.elim .inl fun h=>.inr (.inl h)
theorem Sl.away {v:Value} {xs:Bts} (h:Sl W (PatB U m) v xs) (hk:Kept (fun j=>j=m.mb) W W'):Sl W' (PatB U m) v xs:=h.kept hk fun _ _ hg e=>hg.2.1 e
theorem mfind_mac {pat:Bts} (w:World) (hm:MacAt w F m U R k c o inp out failed) (hp:Sl w (PatB U m) c.pv pat) (hlen:pat.length≤200000) (p:Nat) (b:Bts) (hr:RdyK w m.S p b) (fr:Nat) :
  Calls Tryz.prog 220 #[.pointer (some ⟨m.mb,0,none⟩),.pointer (some ⟨p,0,none⟩),.int .i64 fr] w fun e w'=>e=.returned (Rg.findVal (Sd.rxFind b pat fr))∧Blk w' m.mb (mcArr F m { c with last:=.pointer (some ⟨p,0,none⟩) }) 218∧Kept (fun j=>j=m.mb) w w':=by
 have f14:=Blk.free hm.blk 14
 have c14:=Blk.cell hm.blk 14 (v:=c.last) rfl
 have hs:=hm.set (c':={ c with last:=.pointer (some ⟨p,0,none⟩) }) 14 (.pointer (some ⟨p,0,none⟩)) rfl
 have hk:Kept (fun j=>j=m.mb) w (w.setCell ⟨m.mb,14,none⟩ (.pointer (some ⟨p,0,none⟩))):=(Kept.refl (fun j=>j=m.mb) w).setCell (.inl rfl) 14 _
 have d7:=Blk.cell hs.blk 7 (v:=c.pv) rfl
 have hps:=hp.stored 14 (.pointer (some ⟨p,0,none⟩))
 have hr2:=hr.kept hk fun j hj e=>hm.sm.1 (e ▸ hj)
 obtain ⟨n,-,hn2,-,hn4⟩:=rx_good hr.good
 obtain ⟨lo,v,L,hpg,hsts,-,-⟩:=hr2.rdy
 obtain ⟨pp,cp,hpv,hbs,-⟩:=hps.bs
 have hfd:=Rg.find_ready (lo:=lo) p cp n (fr:Int) pat pp (w.setCell ⟨m.mb,14,none⟩ (.pointer (some ⟨p,0,none⟩))) ⟨⟨v,L,by unfold Sd.rxProg at hpg;rw [hn2] at hpg;exact hpg,by unfold Sd.rxProg at hsts;rw [hn2] at hsts;exact hsts⟩,hn4⟩ hbs (by omega)
 rw [show Rg.Mx.find (Rg.progOf n).2 (Rg.progOf n).1 pat (fr:Int).toNat=Sd.rxFind b pat fr by unfold Sd.rxFind Sd.rxProg;rw [hn2];rfl] at hfd
 rw [hpv] at d7
 have hv:∃ x y z,Rg.findVal (Sd.rxFind b pat fr)=.tuple #[.int .i64 x,.int .i64 y,.bool z]:=by
  cases Sd.rxFind b pat fr with
  | none=>exact ⟨_,_,_,rfl⟩
  | some z=>exact ⟨_,_,_,rfl⟩
 obtain ⟨x,y,z,hxyz⟩:=hv
 rw [hxyz] at hfd ⊢
 have HS:=Lib.hid hs.blk
 have HK:=Lib.hid hk
 clear hm hp hs hk hps hr hr2 hpg hsts hbs hn2 hn4 hpv hxyz hlen
 go_enter Tryz.func220,Tryz.ntmps220
 go_wp2_with fail
 refine hfd.mono ?_
 rintro e w2 ⟨rfl,hb2⟩
 have HB2:=Lib.hid hb2
 clear hfd hb2
 go_wp2_with fail
 go_ret3
 exact ⟨rfl,Blk.keep HS.out HB2.out (Blk.lt HS.out),HK.out.trans (Kept.of_below HB2.out)⟩
theorem replaces_st {q:Sd.St} (w:World) (h:Mst w F m q) {i:Nat} (hi:i < m.cs.length) {x:Sd.Cmd} (hx:m.cs.getD i default=x) {b:Bts} (hrx:x.rx=some b) (hprt:x.prt=false) (hrep:x.rep.length≤1000)
  {at0:Nat} {acc0:Bts} {sm0:Bool} (hs:Sd.subs b q.pat x (q.pat.length+2) 0 0 0 [] false=some (at0,acc0,sm0)) (hl:sm0=true→acc0.length+(q.pat.length - at0)≤8192) :
  Calls Tryz.prog 158 #[.pointer (some ⟨m.mb,0,none⟩),.pointer (some ⟨m.qs.getD i 0,0,none⟩)] w fun e w'=>e=.returned (.int .i64 0)∧Mst w' F m (if sm0 then { q with pat:=acc0 ++ q.pat.drop at0,done:=true } else q):=by
 have hcm:=h.cmd hi
 generalize hqi:m.qs.getD i 0=qi at *
 rw [hx] at hcm
 obtain ⟨U,R,k,c,o,hm,hp,hh,h1,h2,h3,h4,h5,h6,h7,h8,h9,h10,h11⟩:=h
 have hcmS:m.S qi:=by
  rw [← hqi]
  exact hm.scr.set _ (getD_mem (by rw [hm.scr.len];exact hi))
 obtain ⟨p,cp,hpv,hbs,hcap⟩:=hp.bs
 have H1:=Lib.hid (And.intro h1 (And.intro h2 (And.intro h3 (And.intro h4 (And.intro h5 (And.intro h6 (And.intro h7 (And.intro h8 (And.intro h10 h11)))))))))
 have HM:=Lib.hid hm
 have HP:=Lib.hid hp
 have HH:=Lib.hid hh
 have HCM:=Lib.hid hcm
 have hmbl:m.mb < w.heap.size:=hm.blk.lt
 have hmol:m.mo < w.heap.size:=hm.om.lt
 obtain ⟨av,re,rv,hcb0,had0,hrx0,hpc0,htl⟩:=hcm
 rw [hrx] at hrx0
 obtain ⟨rp,rfl,hrdy⟩:=hrx0
 have hat:Hid (∀ wr:World,Kept (fun j=>j=m.mb) w wr→CmdAt wr m.S qi x∧CmBlk wr qi x av (.pointer (some ⟨rp,0,none⟩)) rv∧RdyK wr m.S rp b∧Bs wr p q.pat∧Sl wr (PatB U m) c.pv q.pat∧Sl wr (PatB U m) c.hv q.hold):=Lib.hid fun wr hk=>by
  have hS:∀ j,m.S j→¬ j=m.mb:=fun j hj e=>HM.out.sm.1 (e ▸ hj)
  have hsl:=HP.out.away hk
  obtain ⟨p',cp',e,hb',-⟩:=hsl.bs
  rw [hpv] at e
  injection e with e1 e2 e3
  subst e1
  exact ⟨HCM.out.kept hk (hS _ hcmS) hS,Blk.kept hcb0 hk (hS _ hcmS),hrdy.kept hk hS,hb',hsl,HH.out.away hk⟩
 have HPV:=Lib.hid hpv
 have hcmd:Hid (∀ (w7:World) (q7:Sd.St),Mst w7 F m q7→CmdAt w7 m.S qi x):=Lib.hid fun w7 q7 h7=>by
  have:=h7.cmd hi
  rw [hqi,hx] at this
  exact this
 have hcap2:=hcap
 have hlen:=h9
 have HL:=Lib.hid hl
 have HS0:=Lib.hid hs
 clear h1 h2 h3 h4 h5 h6 h7 h8 h9 h10 h11 hm hp hh hbs hpv hcb0 had0 hpc0 hrdy hx hl hs hcmS hqi hi
 go_enter Tryz.func158,Tryz.ntmps158
 go_wp2_with fail
 go_loopg [5,6,7,8,9,10,11,12] (q.pat.length+2) (fun f x5 x6 x7 x8 x9 _x10 _x11 _x12 wr=>∃ (fr at_ n:Nat) (acc:Bts) (sm:Bool) (lv:Value),x9=.int .i64 fr∧x6=.int .i64 at_∧x7=.int .i64 n∧x8=.bool sm∧at_≤fr∧at_≤q.pat.length∧n≤fr∧fr≤q.pat.length+1 ∧
  Hid (wr.ownsRow w.heap.size 5 1 x5 acc.length (acc.map u8V))∧Hid (Kept (fun j=>j=m.mb) w wr)∧Hid (Blk wr m.mb (mcArr F m { c with last:=lv }) 218)∧Hid (Sd.subs b q.pat x f fr at_ n acc sm=some (at0,acc0,sm0)))
 case atStart=>exact ⟨0,0,0,[],false,c.last,rfl,rfl,rfl,rfl,Nat.le_refl _,Nat.zero_le _,Nat.le_refl _,Nat.zero_le _,Lib.hid (World.ownsRow_nil _ _ _ _),Lib.hid (Kept.refl _ _),Lib.hid HM.out.blk,HS0⟩
 case round=>
  obtain ⟨fr,at_,n,acc,sm,lv,rfl,rfl,rfl,rfl,ha1,ha2,hn1,hf1,HO,HK,HBK,HSU⟩:=hrel
  obtain ⟨pb,cb,rfl,hbb⟩:=bs_own HO.out rfl
  obtain ⟨hcmr,hcbr,hrdr,hbsr,hslr,hshr⟩:=hat.out wr HK.out
  have c7:=Blk.cell HBK.out 7 (v:=c.pv) rfl
  rw [HPV.out] at c7
  have HCMR:=Lib.hid hcmr
  have HSLR:=Lib.hid hslr
  have HSHR:=Lib.hid hshr
  have HBS:=Lib.hid hbsr
  have hrel1:(at_:Int)≤(q.pat.length:Int):=by omega
  have hmac:=HM.out.away0 HK.out HBK.out
  have HMAC:=Lib.hid hmac
  clear hcmr hslr hshr hbsr hmac hbb
  cases gk with
  | zero=>exact absurd HSU.out (by rw [Sd.subs];simp)
  | succ f=>
   by_cases hgo:fr≤q.pat.length∧acc.length≤65536
   ·obtain ⟨hg1,hg2⟩:=hgo
    have hgi1:(fr:Int)≤(q.pat.length:Int):=by omega
    have hgi2:(acc.length:Int)≤65536:=by omega
    have c262:=Blk.cell hcbr 262 (cm_re htl)
    have hfd:=mfind_mac wr HMAC.out HSLR.out hlen rp b hrdr fr
    have hsu:=HSU.out
    rw [Sd.subs,if_pos ⟨hg1,hg2⟩] at hsu
    clear hrdr
    cases hfx:Sd.rxFind b q.pat fr with
    | none=>
     rw [hfx] at hsu hfd
     simp only [Option.some.injEq,Prod.mk.injEq] at hsu
     obtain ⟨rfl,rfl,rfl⟩:=hsu
     have hfd2:Hid (Calls Tryz.prog 220 #[.pointer (some ⟨m.mb,0,none⟩),.pointer (some ⟨rp,0,none⟩),.int .i64 fr] wr fun e w'=>e=.returned (.tuple #[.int .i64 0,.int .i64 0,.bool false])∧Blk w' m.mb (mcArr F m { c with last:=.pointer (some ⟨rp,0,none⟩) }) 218∧Kept (fun j=>j=m.mb) wr w'):=Lib.hid hfd
     clear hfd hfx hcbr
     go_wp2_with fail
     refine hfd2.out.mono ?_
     rintro e w2 ⟨rfl,hbk2,hk2⟩
     have HK2:=Lib.hid (HK.out.trans' hk2 fun _ _ e=>e)
     have HBK2:=Lib.hid hbk2
     have ho2:=own_kept HO.out hk2 fun g e=>by
      have:=(HO.out.lt g e).1
      omega
     have HO2:=Lib.hid ho2
     clear hbk2 hk2 ho2 c7 c262
     have hbs3:=(hat.out w2 HK2.out).2.2.2.1
     have hcb3:=(hat.out w2 HK2.out).2.1
     cases sm with
     | false=>
      have hmac2:=HM.out.away0 HK2.out HBK2.out
      have hfin:Mst w2 F m q:=by
       obtain ⟨h1,h2,h3,h4,h5,h6,h7,h8,h10,h11⟩:=H1.out
       exact ⟨U,R,k,_,o,hmac2,(hat.out w2 HK2.out).2.2.2.2.1,(hat.out w2 HK2.out).2.2.2.2.2,h1,h2,h3,h4,h5,h6,h7,h8,hlen,h10,h11⟩
      have HFIN:=Lib.hid hfin
      clear hbs3 hcb3 hmac2 hfin
      go_wp2_with fail
      go_ret
      exact ⟨rfl,HFIN.out⟩
     | true=>
      have hll:=HL.out rfl
      have hx3:(q.pat.drop at_).length=q.pat.length - at_:=by simp
      have hcut3:=fun w'=>run_cut p q.pat.length cp at_ ha2 w'
      have hbsy:Bs w2 (cutP p cp at_) (q.pat.drop at_):=by
       have:=hbs3.cut hcap2 ha2 (q.pat.length - at_)
       rwa [List.take_of_length_le (by simp)] at this
      have e7:=Blk.cell HBK2.out 7 (v:=c.pv) rfl
      rw [HPV.out] at e7
      have HCB3:=Lib.hid hcb3
      clear hbs3 hcb3
      go_upto_region 20 with fail
      go_wp2_with (at_builtin;refine append_bytes rfl _ _ rfl w.heap.size (.slice pb acc.length cb) acc.length (acc.map u8V) rfl HO2.out (cutP p cp at_) (q.pat.drop at_) (cp - at_) (by rw [hx3];rfl) hbsy (by omega) HK2.out.size ?_;intro v6 w6 ho6 hg6 hv6)
      have hgo6:∀ g,v6.ownBlock=some g→w.heap.size≤g∧g < w6.heap.size:=fun g e=>ho6.lt g e
      have hk6:Kept (fun j=>j=m.mb) w w6:=(HK2.out.trans' (kept_grown (Kept.refl (fun _=>False) w2) hg6) fun j hj e=>by
       have:=(HO2.out.lt j e).1
       omega)
      have hb6:Blk w6 m.mb (mcArr F m { c with last:=.pointer (some ⟨rp,0,none⟩) }) 218:=(hg6.block m.mb (Nat.lt_of_lt_of_le hmbl HK2.out.size) fun e=>by
       have:=(HO2.out.lt m.mb e.symm).1
       omega).trans HBK2.out
      have hm6:=HM.out.away hk6 hb6 hgo6
      obtain ⟨-,hcb6,-,-,hsl6,hsh6⟩:=hat.out w6 hk6
      rw [← List.map_append,← List.length_append] at ho6
      have hv6s:Sl w6 (PatB (fun j=>U j∨v6.ownBlock=some j) m) v6 (acc ++ q.pat.drop at_):=(Sl.own ho6).mono fun g _ hg=>⟨.inr hg.2,fun e=>by have:=hg.1;omega,fun e=>by have:=hg.1;omega⟩
      have hsp:=space_st (q:=q) w6 (v:=v6) (xs:=acc ++ q.pat.drop at_) (by
       obtain ⟨h1,h2,h3,h4,h5,h6,h7,h8,h10,h11⟩:=H1.out
       exact ⟨_,R,k,_,o,hm6,hv6s,hsh6.grow fun _ h=>.inl h,h1,h2,h3,h4,h5,h6,h7,h8,h10,h11⟩) (by rw [List.length_append,hx3];exact hll)
      clear e7 hbsy hcut3 hgo6 hk6 hb6 hm6 hcb6 hsl6 hsh6 hv6s ho6 hg6 hv6 hx3
      go_wp2_with fail
      refine hsp.mono ?_
      rintro e w7 ⟨rfl,hm7⟩
      have hm8:Mst (w7.setCell ⟨m.mb,12,none⟩ (.bool true)) F m { q with pat:=acc ++ q.pat.drop at_,done:=true }:=by
       obtain ⟨U,R,k,c,o,hm,hp,hh,h1,h2,h3,h4,h5,h6⟩:=hm7
       exact ⟨U,R,k,{ c with done:=true },o,hm.set 12 _ rfl,hp.stored 12 _,hh.stored 12 _,h1,h2,h3,rfl,h5,h6⟩
      have hc12:(∃ y,w7.cell? ⟨m.mb,12,none⟩=some (.bool y))∧w7.frozen? ⟨m.mb,12,none⟩=false:=by
       obtain ⟨U,R,k,c,o,hm,-⟩:=hm7
       exact ⟨⟨c.done,Blk.cell hm.blk 12 rfl⟩,Blk.free hm.blk 12⟩
      obtain ⟨⟨y12,c12⟩,f12⟩:=hc12
      have hprt8:(w7.setCell ⟨m.mb,12,none⟩ (.bool true)).cell? ⟨qi,265,none⟩=some (.bool false):=by
       obtain ⟨av',re',rv',hcb',-,-,-,ht'⟩:=hcmd.out _ _ hm8
       rw [← hprt]
       exact Blk.cell hcb' 265 (cm_prt ht')
      have HM8:=Lib.hid hm8
      clear hsp hm7 hm8
      go_wp2_with fail
      go_ret
      exact ⟨rfl,HM8.out⟩
    | some z=>
     obtain ⟨i,k2⟩:=z
     obtain ⟨hb1,hb2,hb3⟩:=rxFind_bd hfx
     rw [hfx] at hsu hfd
     have hfd2:Hid (Calls Tryz.prog 220 #[.pointer (some ⟨m.mb,0,none⟩),.pointer (some ⟨rp,0,none⟩),.int .i64 fr] wr fun e w'=>e=.returned (.tuple #[.int .i64 i,.int .i64 k2,.bool true])∧Blk w' m.mb (mcArr F m { c with last:=.pointer (some ⟨rp,0,none⟩) }) 218∧Kept (fun j=>j=m.mb) wr w'):=Lib.hid hfd
     simp only at hsu
     clear hfd hfx hcbr
     have hwn:IntKind.i64.wrap ((n:Int)+1)=(n:Int)+1:=wrap_i64 (by omega) (by omega)
     have hwi:IntKind.i64.wrap ((i:Int)+1)=(i:Int)+1:=wrap_i64 (by omega) (by omega)
     have hwk:IntKind.i64.wrap ((k2:Int)+1)=(k2:Int)+1:=wrap_i64 (by omega) (by omega)
     go_wp2_with fail
     refine hfd2.out.mono ?_
     rintro e w2 ⟨rfl,hbk2,hk2⟩
     have HK2:=Lib.hid (HK.out.trans' hk2 fun _ _ e=>e)
     have HBK2:=Lib.hid hbk2
     obtain ⟨hcm2,hcb2,-,hbs2,-,-⟩:=hat.out w2 HK2.out
     have d7:=Blk.cell hbk2 7 (v:=c.pv) rfl
     rw [HPV.out] at d7
     have dall:=Blk.cell hcb2 264 (cm_all htl)
     have dnth:=Blk.cell hcb2 266 (cm_nth htl)
     have ho2:=own_kept HO.out hk2 fun g e=>by
      have:=(HO.out.lt g e).1
      omega
     have HO2:=Lib.hid ho2
     have HCM2:=Lib.hid hcm2
     have HBS2:=Lib.hid hbs2
     clear hbk2 hk2 hcm2 hcb2 hbs2 ho2 c7 c262
     by_cases hsk:i=k2∧i=at_∧0 < n
     ·rw [if_pos hsk] at hsu
      obtain ⟨s1,s2,s3⟩:=hsk
      have HSU2:=Lib.hid hsu
      subst s1
      subst s2
      have s3i:(0:Int) < (n:Int):=by omega
      clear hsu
      go_wp2_with fail
      go_roundg f
      case measure=>omega
      case rel=>exact ⟨i+1,i,n,acc,sm,.pointer (some ⟨rp,0,none⟩),by go_num,rfl,rfl,rfl,by omega,by omega,by omega,by omega,HO2,HK2,HBK2,HSU2⟩
     ·rw [if_neg hsk] at hsu
      have hx1:((q.pat.drop at_).take (i - at_)).length=i - at_:=by simp;omega
      have hcut1:=fun w'=>run_cut2 p q.pat.length cp at_ i (by omega) (by omega) w'
      have hbsx:=HBS2.out.cut hcap2 ha2 (i - at_)
      have hx2:((q.pat.drop i).take (k2 - i)).length=k2 - i:=by simp;omega
      have hcut2:=fun w'=>run_cut2 p q.pat.length cp i k2 hb2 (by omega) w'
      by_cases hr:n=0∨x.all=true
      ·rw [if_pos hr] at hsu
       have HSU2:=Lib.hid hsu
       clear hsu
       go_upto_region 7 with fail
       go_cut [40,41,42,43,44,45,46,47,48,49] (fun _ _ _ _ _ _ _ _ _ x49 wx=>x49=.bool false∧wx=w2)
       case first=>
        have HSK:=Lib.hid hsk
        clear hcut1 hcut2 hwn hwi hwk hsk hr
        go_wp2_with fail
        all_goals
         go_meet
         first
          | exact ⟨rfl,rfl⟩
          | (have h9:=HSK.out
             have h8:¬ 0 < n:=fun h=>h9 ⟨by omega,by omega,h⟩
             refine ⟨?_,rfl⟩
             simp [h8])
       case rest=>
        obtain ⟨rfl,hwc⟩:=hcut
        rw [hwc]
        clear hwc hsk
        go_upto_region 10 with fail
        go_upto_region 11 with (at_builtin;refine append_bytes rfl _ _ rfl w.heap.size (.slice pb acc.length cb) acc.length (acc.map u8V) rfl HO2.out (cutP p cp at_) ((q.pat.drop at_).take (i - at_)) (cp - at_) (by rw [hx1];rfl) hbsx (by omega) HK2.out.size ?_;intro v3 w3 ho3 hg3 hv3)
        have hk3:Kept (fun j=>j=m.mb) w w3:=(HK2.out.trans' (kept_grown (Kept.refl (fun _=>False) w2) hg3) fun j hj e=>by
         have:=(HO2.out.lt j e).1
         omega)
        have hbk3:Blk w3 m.mb (mcArr F m { c with last:=.pointer (some ⟨rp,0,none⟩) }) 218:=(hg3.block m.mb (Nat.lt_of_lt_of_le hmbl HK2.out.size) fun e=>by
         have:=(HO2.out.lt m.mb e.symm).1
         omega).trans HBK2.out
        rw [← List.map_append,← List.length_append] at ho3
        obtain ⟨hcm3,hcb3,-,hbs3,-,-⟩:=hat.out w3 hk3
        have d7b:=Blk.cell hbk3 7 (v:=c.pv) rfl
        rw [HPV.out] at d7b
        have dall3:=Blk.cell hcb3 264 (cm_all htl)
        have dnth3:=Blk.cell hcb3 266 (cm_nth htl)
        have HO3:=Lib.hid ho3
        have HK3:=Lib.hid hk3
        have HBK3:=Lib.hid hbk3
        have HCM3:=Lib.hid hcm3
        have HBS3:=Lib.hid hbs3
        have hxl:(acc ++ (q.pat.drop at_).take (i - at_)).length≤300000:=by rw [List.length_append,hx1];omega
        clear hcut1 hx1 hbsx ho3 hg3 hv3 hk3 hbk3 hcm3 hcb3 hbs3 d7 dall dnth
        generalize hacc3:acc ++ (q.pat.drop at_).take (i - at_)=acc3 at *
        go_cut [68,69,70,71,72,73,74,75,76,77,78,79,80,81,82,83] (fun _ _ _ _ _ _ _ _ _ _ _ _ _ _ _ x83 wx=>x83=.bool true∧wx=w3)
        case first=>
         have HR:=Lib.hid hr
         clear hcut2 hwn hwi hwk hr
         cases hal:x.all
         all_goals
          rw [hal] at dall3
          have HAL:=Lib.hid hal
          clear hal
          go_wp2_with fail
          all_goals
           go_meet
           first
            | exact ⟨rfl,rfl⟩
            | (rcases HR.out with h9 | h9
               ·first | (exfalso;omega) | (refine ⟨?_,rfl⟩;simp [h9])
               ·rw [HAL.out] at h9
                cases h9)
        case rest=>
         obtain ⟨rfl,hwc⟩:=hcut
         rw [hwc]
         clear hwc dall3 dnth3 hr
         have hbsy:=HBS3.out.cut hcap2 (show i≤q.pat.length by omega) (k2 - i)
         have hrp:=replaced_any qi x (cutP p cp i) (cp - i) ((q.pat.drop i).take (k2 - i)) w3 HCM3.out hbsy (by rw [hx2];omega) hrep
         have hrl:=replaced_len ((q.pat.drop i).take (k2 - i)) x.rep
         rw [hx2] at hrp hrl
         have hrl2:x.rep.length * (k2 - i+1)≤1000 * 200001:=Nat.mul_le_mul hrep (by omega)
         generalize hRR:Sd.replaced ((q.pat.drop i).take (k2 - i)) x.rep=RR at *
         clear hbsy
         go_wp2_with fail
         refine hrp.mono ?_
         rintro e w4 ⟨v4,rfl,ho4,hb4⟩
         obtain ⟨p4,c4,rfl,hbs4⟩:=bs_own ho4 rfl
         have ho5:=own_kept HO3.out (Kept.of_below (S:=fun _=>False) hb4) fun _ _ h=>h
         have hk4:Kept (fun j=>j=m.mb) w w4:=HK3.out.trans' (Kept.of_below (S:=fun _=>False) hb4) fun _ _ h=>h.elim
         have hbk4:=Blk.keep HBK3.out hb4 (Blk.lt HBK3.out)
         have HO5:=Lib.hid ho5
         have HK4:=Lib.hid hk4
         have HBK4:=Lib.hid hbk4
         clear hrp ho4 hb4 ho5 hk4 hbk4 d7b hcut2
         go_upto_region 13 with (at_builtin;refine append_bytes rfl _ _ rfl w.heap.size v3 acc3.length (acc3.map u8V) rfl HO5.out p4 RR c4 rfl hbs4 (by omega) HK4.out.size ?_;intro v6 w6 ho6 hg6 hv6)
         have hk6:Kept (fun j=>j=m.mb) w w6:=(HK4.out.trans' (kept_grown (Kept.refl (fun _=>False) w4) hg6) fun j hj e=>by
          have:=(HO5.out.lt j e).1
          omega)
         have hbk6:Blk w6 m.mb (mcArr F m { c with last:=.pointer (some ⟨rp,0,none⟩) }) 218:=(hg6.block m.mb (Nat.lt_of_lt_of_le hmbl HK4.out.size) fun e=>by
          have:=(HO5.out.lt m.mb e.symm).1
          omega).trans HBK4.out
         rw [← List.map_append,← List.length_append] at ho6
         have HO6:=Lib.hid ho6
         have HK6:=Lib.hid hk6
         have HBK6:=Lib.hid hbk6
         clear ho6 hg6 hv6 hk6 hbk6 hbs4
         by_cases e1:i=k2
         ·have hsu:=HSU2.out
          rw [if_pos e1] at hsu
          have HSU3:=Lib.hid hsu
          have E1:=Lib.hid e1
          have e1i:((i:Int) == (k2:Int))=true:=by simp [e1]
          clear hsu e1
          go_wp2_with fail
          have e1:=E1.out
          go_roundg f
          case measure=>omega
          case rel=>exact ⟨k2+1,k2,n+1,acc3 ++ RR,true,.pointer (some ⟨rp,0,none⟩),by go_num,rfl,by go_num,rfl,by omega,by omega,by omega,by omega,HO6,HK6,HBK6,HSU3⟩
         ·have hsu:=HSU2.out
          rw [if_neg e1] at hsu
          have HSU3:=Lib.hid hsu
          have E1:=Lib.hid e1
          have e1i:((i:Int) == (k2:Int))=false:=by
           rw [Bool.eq_false_iff]
           simp only [ne_eq,beq_iff_eq]
           omega
          clear hsu e1
          go_wp2_with fail
          have e1:=E1.out
          go_roundg f
          case measure=>omega
          case rel=>exact ⟨k2,k2,n+1,acc3 ++ RR,true,.pointer (some ⟨rp,0,none⟩),rfl,rfl,by go_num,rfl,by omega,by omega,by omega,by omega,HO6,HK6,HBK6,HSU3⟩
      ·rw [if_neg hr] at hsu
       have HSU2:=Lib.hid hsu
       clear hsu
       go_upto_region 7 with fail
       go_cut [40,41,42,43,44,45,46,47,48,49] (fun _ _ _ _ _ _ _ _ _ x49 wx=>x49=.bool false∧wx=w2)
       case first=>
        have HSK:=Lib.hid hsk
        clear hcut1 hcut2 hwn hwi hwk hsk hr
        go_wp2_with fail
        all_goals
         go_meet
         first
          | exact ⟨rfl,rfl⟩
          | (have h9:=HSK.out
             have h8:¬ 0 < n:=fun h=>h9 ⟨by omega,by omega,h⟩
             refine ⟨?_,rfl⟩
             simp [h8])
       case rest=>
        obtain ⟨rfl,hwc⟩:=hcut
        rw [hwc]
        clear hwc hsk
        go_upto_region 10 with fail
        go_upto_region 11 with (at_builtin;refine append_bytes rfl _ _ rfl w.heap.size (.slice pb acc.length cb) acc.length (acc.map u8V) rfl HO2.out (cutP p cp at_) ((q.pat.drop at_).take (i - at_)) (cp - at_) (by rw [hx1];rfl) hbsx (by omega) HK2.out.size ?_;intro v3 w3 ho3 hg3 hv3)
        have hk3:Kept (fun j=>j=m.mb) w w3:=(HK2.out.trans' (kept_grown (Kept.refl (fun _=>False) w2) hg3) fun j hj e=>by
         have:=(HO2.out.lt j e).1
         omega)
        have hbk3:Blk w3 m.mb (mcArr F m { c with last:=.pointer (some ⟨rp,0,none⟩) }) 218:=(hg3.block m.mb (Nat.lt_of_lt_of_le hmbl HK2.out.size) fun e=>by
         have:=(HO2.out.lt m.mb e.symm).1
         omega).trans HBK2.out
        rw [← List.map_append,← List.length_append] at ho3
        obtain ⟨hcm3,hcb3,-,hbs3,-,-⟩:=hat.out w3 hk3
        have d7b:=Blk.cell hbk3 7 (v:=c.pv) rfl
        rw [HPV.out] at d7b
        have dall3:=Blk.cell hcb3 264 (cm_all htl)
        have dnth3:=Blk.cell hcb3 266 (cm_nth htl)
        have HO3:=Lib.hid ho3
        have HK3:=Lib.hid hk3
        have HBK3:=Lib.hid hbk3
        have HCM3:=Lib.hid hcm3
        have HBS3:=Lib.hid hbs3
        have hxl:(acc ++ (q.pat.drop at_).take (i - at_)).length≤300000:=by rw [List.length_append,hx1];omega
        clear hcut1 hx1 hbsx ho3 hg3 hv3 hk3 hbk3 hcm3 hcb3 hbs3 d7 dall dnth
        generalize hacc3:acc ++ (q.pat.drop at_).take (i - at_)=acc3 at *
        go_cut [68,69,70,71,72,73,74,75,76,77,78,79,80,81,82,83] (fun _ _ _ _ _ _ _ _ _ _ _ _ _ _ _ x83 wx=>x83=.bool false∧wx=w3)
        case first=>
         have HN0:=Lib.hid (show ¬ n=0 from fun e=>hr (.inl e))
         have hal:x.all=false:=by
          cases hx9:x.all with
          | true=>exact absurd (.inr hx9) hr
          | false=>rfl
         rw [hal] at dall3
         clear hcut2 hwn hwi hwk hr hal
         go_wp2_with fail
         all_goals
          go_meet
          first
           | exact ⟨rfl,rfl⟩
           | (have h9:=HN0.out
              first | (exfalso;omega) | (refine ⟨?_,rfl⟩;simp [h9]))
        case rest=>
         obtain ⟨rfl,hwc⟩:=hcut
         rw [hwc]
         clear hwc dall3 dnth3 hr
         have hbsy:=HBS3.out.cut hcap2 (show i≤q.pat.length by omega) (k2 - i)
         go_upto_region 14 with fail
         go_upto_region 15 with (at_builtin;refine append_bytes rfl _ _ rfl w.heap.size v3 acc3.length (acc3.map u8V) rfl HO3.out (cutP p cp i) ((q.pat.drop i).take (k2 - i)) (cp - i) (by rw [hx2];rfl) hbsy (by omega) HK3.out.size ?_;intro v6 w6 ho6 hg6 hv6)
         have hk6:Kept (fun j=>j=m.mb) w w6:=(HK3.out.trans' (kept_grown (Kept.refl (fun _=>False) w3) hg6) fun j hj e=>by
          have:=(HO3.out.lt j e).1
          omega)
         have hbk6:Blk w6 m.mb (mcArr F m { c with last:=.pointer (some ⟨rp,0,none⟩) }) 218:=(hg6.block m.mb (Nat.lt_of_lt_of_le hmbl HK3.out.size) fun e=>by
          have:=(HO3.out.lt m.mb e.symm).1
          omega).trans HBK3.out
         rw [← List.map_append,← List.length_append] at ho6
         generalize hRR:(q.pat.drop i).take (k2 - i)=RR at *
         have HO6:=Lib.hid ho6
         have HK6:=Lib.hid hk6
         have HBK6:=Lib.hid hbk6
         clear ho6 hg6 hv6 hk6 hbk6 hbsy d7b hcut2
         by_cases e1:i=k2
         ·have hsu:=HSU2.out
          rw [if_pos e1] at hsu
          have HSU3:=Lib.hid hsu
          have E1:=Lib.hid e1
          have e1i:((i:Int) == (k2:Int))=true:=by simp [e1]
          clear hsu e1
          go_wp2_with fail
          have e1:=E1.out
          go_roundg f
          case measure=>omega
          case rel=>exact ⟨k2+1,k2,n+1,acc3 ++ RR,sm,.pointer (some ⟨rp,0,none⟩),by go_num,rfl,by go_num,rfl,by omega,by omega,by omega,by omega,HO6,HK6,HBK6,HSU3⟩
         ·have hsu:=HSU2.out
          rw [if_neg e1] at hsu
          have HSU3:=Lib.hid hsu
          have E1:=Lib.hid e1
          have e1i:((i:Int) == (k2:Int))=false:=by
           rw [Bool.eq_false_iff]
           simp only [ne_eq,beq_iff_eq]
           omega
          clear hsu e1
          go_wp2_with fail
          have e1:=E1.out
          go_roundg f
          case measure=>omega
          case rel=>exact ⟨k2,k2,n+1,acc3 ++ RR,sm,.pointer (some ⟨rp,0,none⟩),rfl,rfl,by go_num,rfl,by omega,by omega,by omega,by omega,HO6,HK6,HBK6,HSU3⟩
   ·have hsu:=HSU.out
    rw [Sd.subs,if_neg hgo] at hsu
    simp only [Option.some.injEq,Prod.mk.injEq] at hsu
    obtain ⟨rfl,rfl,rfl⟩:=hsu
    clear hrdr
    by_cases hg1:fr≤q.pat.length
    ·have hg2:¬ acc.length≤65536:=fun e=>hgo ⟨hg1,e⟩
     have hgi1:(fr:Int)≤(q.pat.length:Int):=by omega
     have hgi2:¬ (acc.length:Int)≤65536:=by omega
     have hbs3:=(hat.out wr HK.out).2.2.2.1
     have hcb3:=(hat.out wr HK.out).2.1
     cases sm with
     | false=>
      have hmac2:=HM.out.away0 HK.out HBK.out
      have hfin:Mst wr F m q:=by
       obtain ⟨h1,h2,h3,h4,h5,h6,h7,h8,h10,h11⟩:=H1.out
       exact ⟨U,R,k,_,o,hmac2,(hat.out wr HK.out).2.2.2.2.1,(hat.out wr HK.out).2.2.2.2.2,h1,h2,h3,h4,h5,h6,h7,h8,hlen,h10,h11⟩
      have HFIN:=Lib.hid hfin
      clear hbs3 hcb3 hmac2 hfin
      go_wp2_with fail
      go_ret
      exact ⟨rfl,HFIN.out⟩
     | true=>
      have hll:=HL.out rfl
      omega
    ·have hgi1:¬ (fr:Int)≤(q.pat.length:Int):=by omega
     have hbs3:=(hat.out wr HK.out).2.2.2.1
     have hcb3:=(hat.out wr HK.out).2.1
     cases sm with
     | false=>
      have hmac2:=HM.out.away0 HK.out HBK.out
      have hfin:Mst wr F m q:=by
       obtain ⟨h1,h2,h3,h4,h5,h6,h7,h8,h10,h11⟩:=H1.out
       exact ⟨U,R,k,_,o,hmac2,(hat.out wr HK.out).2.2.2.2.1,(hat.out wr HK.out).2.2.2.2.2,h1,h2,h3,h4,h5,h6,h7,h8,hlen,h10,h11⟩
      have HFIN:=Lib.hid hfin
      clear hbs3 hcb3 hmac2 hfin
      go_wp2_with fail
      go_ret
      exact ⟨rfl,HFIN.out⟩
     | true=>
      have hll:=HL.out rfl
      have hx3:(q.pat.drop at_).length=q.pat.length - at_:=by simp
      have hcut3:=fun w'=>run_cut p q.pat.length cp at_ ha2 w'
      have hbsy:Bs wr (cutP p cp at_) (q.pat.drop at_):=by
       have:=hbs3.cut hcap2 ha2 (q.pat.length - at_)
       rwa [List.take_of_length_le (by simp)] at this
      have e7:=Blk.cell HBK.out 7 (v:=c.pv) rfl
      rw [HPV.out] at e7
      have HCB3:=Lib.hid hcb3
      clear hbs3 hcb3
      go_upto_region 20 with fail
      go_wp2_with (at_builtin;refine append_bytes rfl _ _ rfl w.heap.size (.slice pb acc.length cb) acc.length (acc.map u8V) rfl HO.out (cutP p cp at_) (q.pat.drop at_) (cp - at_) (by rw [hx3];rfl) hbsy (by omega) HK.out.size ?_;intro v6 w6 ho6 hg6 hv6)
      have hgo6:∀ g,v6.ownBlock=some g→w.heap.size≤g∧g < w6.heap.size:=fun g e=>ho6.lt g e
      have hk6:Kept (fun j=>j=m.mb) w w6:=(HK.out.trans' (kept_grown (Kept.refl (fun _=>False) wr) hg6) fun j hj e=>by
       have:=(HO.out.lt j e).1
       omega)
      have hb6:Blk w6 m.mb (mcArr F m { c with last:=lv }) 218:=(hg6.block m.mb (Nat.lt_of_lt_of_le hmbl HK.out.size) fun e=>by
       have:=(HO.out.lt m.mb e.symm).1
       omega).trans HBK.out
      have hm6:=HM.out.away hk6 hb6 hgo6
      obtain ⟨-,hcb6,-,-,hsl6,hsh6⟩:=hat.out w6 hk6
      rw [← List.map_append,← List.length_append] at ho6
      have hv6s:Sl w6 (PatB (fun j=>U j∨v6.ownBlock=some j) m) v6 (acc ++ q.pat.drop at_):=(Sl.own ho6).mono fun g _ hg=>⟨.inr hg.2,fun e=>by have:=hg.1;omega,fun e=>by have:=hg.1;omega⟩
      have hsp:=space_st (q:=q) w6 (v:=v6) (xs:=acc ++ q.pat.drop at_) (by
       obtain ⟨h1,h2,h3,h4,h5,h6,h7,h8,h10,h11⟩:=H1.out
       exact ⟨_,R,k,_,o,hm6,hv6s,hsh6.grow fun _ h=>.inl h,h1,h2,h3,h4,h5,h6,h7,h8,h10,h11⟩) (by rw [List.length_append,hx3];exact hll)
      clear e7 hbsy hcut3 hgo6 hk6 hb6 hm6 hcb6 hsl6 hsh6 hv6s ho6 hg6 hv6 hx3
      go_wp2_with fail
      refine hsp.mono ?_
      rintro e w7 ⟨rfl,hm7⟩
      have hm8:Mst (w7.setCell ⟨m.mb,12,none⟩ (.bool true)) F m { q with pat:=acc ++ q.pat.drop at_,done:=true }:=by
       obtain ⟨U,R,k,c,o,hm,hp,hh,h1,h2,h3,h4,h5,h6⟩:=hm7
       exact ⟨U,R,k,{ c with done:=true },o,hm.set 12 _ rfl,hp.stored 12 _,hh.stored 12 _,h1,h2,h3,rfl,h5,h6⟩
      have hc12:(∃ y,w7.cell? ⟨m.mb,12,none⟩=some (.bool y))∧w7.frozen? ⟨m.mb,12,none⟩=false:=by
       obtain ⟨U,R,k,c,o,hm,-⟩:=hm7
       exact ⟨⟨c.done,Blk.cell hm.blk 12 rfl⟩,Blk.free hm.blk 12⟩
      obtain ⟨⟨y12,c12⟩,f12⟩:=hc12
      have hprt8:(w7.setCell ⟨m.mb,12,none⟩ (.bool true)).cell? ⟨qi,265,none⟩=some (.bool false):=by
       obtain ⟨av',re',rv',hcb',-,-,-,ht'⟩:=hcmd.out _ _ hm8
       rw [← hprt]
       exact Blk.cell hcb' 265 (cm_prt ht')
      have HM8:=Lib.hid hm8
      clear hsp hm7 hm8
      go_wp2_with fail
      go_ret
      exact ⟨rfl,HM8.out⟩
end Go.Proofs.YtefpcacnblaokaaGreatDoor

/-
  What opt.Parse, Has and Last compute, as plain functions. No program in sight. No condition: definitions alone.
-/
namespace Go.Proofs.YtefpcacnblaokaaGreatDoor.Op
abbrev Bytes:=List UInt8
def letF:Bytes→(UInt8→Nat)→(UInt8→Nat)
 | [],f=>f
 | c :: r,f=>letF r (if c=58∨c=45∨f c≠0 then f else fun x=>if x=c then (if r.head?=some 58 then 2 else 1) else f x)
def kinds (spec:Bytes):UInt8→Nat:=letF spec fun _=>0
def wordF (kf:UInt8→Nat):Bytes→List Bytes→Option (List (UInt8 × Bytes) × List Bytes)
 | [],r=>some ([],r)
 | c :: t,r=>
  if kf c=0 then none
  else if kf c=1 then
   match wordF kf t r with
   | none=>none
   | some (l,r')=>some ((c,[]) :: l,r')
  else if t≠[] then some ([(c,t)],r)
  else match r with
   | []=>none
   | x :: r'=>some ([(c,x)],r')
def parseF (kf:UInt8→Nat):Nat→List Bytes→Option (List (UInt8 × Bytes) × List Bytes)
 | 0,l=>some ([],l)
 | _+1,[]=>some ([],[])
 | k+1,a :: r=>
  if a.length < 2∨a.head?≠some 45 then some ([],a :: r)
  else if a=[45,45] then some ([],r)
  else match wordF kf (a.drop 1) r with
   | none=>none
   | some (l,r')=>
    match parseF kf k r' with
    | none=>none
    | some (l',o)=>some (l ++ l',o)
def parse (spec:Bytes) (args:List Bytes):Option (List (UInt8 × Bytes) × List Bytes):=parseF (kinds spec) args.length args
def has (l:List (UInt8 × Bytes)) (c:UInt8):Bool:=l.any fun o=>o.1 == c
def last:List (UInt8 × Bytes)→UInt8→Option Bytes
 | [],_=>none
 | o :: r,c=>match last r c with
  | some x=>some x
  | none=>if o.1=c then some o.2 else none
theorem wordF_len (kf:UInt8→Nat):∀ (a:Bytes) (r:List Bytes) (l:List (UInt8 × Bytes)) (r':List Bytes),wordF kf a r=some (l,r')→r'.length≤r.length:=by
 intro a
 induction a with
 | nil=>
  intro r l r' h
  simp only [wordF,Option.some.injEq,Prod.mk.injEq] at h
  obtain ⟨-,rfl⟩:=h
  exact Nat.le_refl _
 | cons c t ih=>
  intro r l r' h
  unfold wordF at h
  split at h
  ·cases h
  split at h
  ·split at h
   ·cases h
   ·rename_i l2 r2 h2
    have:=ih r l2 r2 h2
    simp only [Option.some.injEq,Prod.mk.injEq] at h
    obtain ⟨-,rfl⟩:=h
    exact this
  split at h
  ·simp only [Option.some.injEq,Prod.mk.injEq] at h
   obtain ⟨-,rfl⟩:=h
   exact Nat.le_refl _
  ·cases r with
   | nil=>cases h
   | cons x r3=>
    simp only [Option.some.injEq,Prod.mk.injEq] at h
    obtain ⟨-,rfl⟩:=h
    simp
theorem parse_fuel (kf:UInt8→Nat):∀ (k m:Nat) (args:List Bytes),args.length≤k→args.length≤m→parseF kf k args=parseF kf m args:=by
 intro k
 induction k with
 | zero=>
  intro m args h _
  have:args=[]:=List.eq_nil_of_length_eq_zero (by omega)
  subst this
  cases m <;> rfl
 | succ k ih=>
  intro m args h1 h2
  cases args with
  | nil=>cases m <;> rfl
  | cons a r=>
   cases m with
   | zero=>simp at h2
   | succ m=>
    simp only [List.length_cons] at h1 h2
    unfold parseF
    split
    ·rfl
    split
    ·rfl
    cases hw:wordF kf (a.drop 1) r with
    | none=>rfl
    | some x=>
     obtain ⟨l,r'⟩:=x
     have:=wordF_len kf _ _ _ _ hw
     simp only
     rw [ih m r' (by omega) (by omega)]
end Go.Proofs.YtefpcacnblaokaaGreatDoor.Op
