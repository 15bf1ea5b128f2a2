/-
  Texts of this seat put together: SdLaw4, Sd45, Sd46, Sd47, Sd48, Sd49.
-/
import Derived.Test.YtefpcacnblaokaaGreatDoorQ35
import Derived.Lib.ItoaNum
import Derived.ProofKit
import Derived.Lib.SmallJoins
import Derived.BigRegion

/-
  Plain laws: how the laws' scripts are read. No program in sight. Conditions: those of each law.
-/
namespace Go.Proofs.YtefpcacnblaokaaGreatDoor.Sd
open Go Go.RowKit
theorem read_empty:read []=.ok []:=rfl
theorem read_p:read [112]=.ok [cmd0 112 [] false]:=by kernel_rfl
theorem read_tac:read [49,33,71,59,104,59,36,112]=.ok tacCs:=by kernel_rfl
theorem read_join:read [58,97,59,36,33,123,78,59,98,97,10,125,59,112]=.ok joinCs:=by kernel_rfl
theorem read_bad:read [115,47,97]=.bad 21:=by kernel_rfl
theorem read_a:read [50,100]=.ok [cmd0 100 [.num 2] false]:=by kernel_rfl
theorem read_b:read [36,112]=.ok [cmd0 112 [.fin] false]:=by kernel_rfl
def subCs:List Cmd:=[⟨115,[],false,0,[],tab0,some [98],[⟨false,91⟩,⟨true,0⟩,⟨false,93⟩],false,false⟩]
theorem read_c:read [115,47,98,47,91,38,93,47]=.ok subCs:=by kernel_rfl
def upCs:List Cmd:=[⟨121,[.num 1,.rx [98]],false,0,[],(ident.set 97 65).set 98 66,none,[],false,false⟩]
theorem read_d:read [49,44,47,98,47,121,47,97,98,47,65,66,47]=.ok upCs:=by kernel_rfl
def holdCs:List Cmd:=[cmd0 72 [] false,⟨123,[.fin],false,5,[],tab0,none,[],false,false⟩,cmd0 120 [] false,⟨115,[],false,0,[],tab0,some [10],[⟨false,44⟩],true,false⟩,cmd0 112 [] false]
theorem read_e:read [72,59,36,123,120,59,115,47,92,110,47,44,47,103,59,112,125]=.ok holdCs:=by kernel_rfl
theorem sed_a:sed 9 false [50,100] [97,10,98,10,99,10] 40 9=some (0,[97,10,99,10]):=by kernel_rfl
theorem sed_b:sed 9 true [36,112] [97,10,98,10,99,10] 40 9=some (0,[99,10]):=by kernel_rfl
theorem sed_c:sed 9 false [115,47,98,47,91,38,93,47] [97,10,98,10,99,10] 40 9=some (0,[97,10,91,98,93,10,99,10]):=by kernel_rfl
theorem sed_d:sed 9 false [49,44,47,98,47,121,47,97,98,47,65,66,47] [97,10,98,10,99,10] 40 9=some (0,[65,10,66,10,99,10]):=by kernel_rfl
theorem sed_e:sed 9 true [72,59,36,123,120,59,115,47,92,110,47,44,47,103,59,112,125] [97,10,98,10,99,10] 40 9=some (0,[44,97,44,98,44,99,10]):=by kernel_rfl
theorem digits_split (d r:Bytes) (h:d.all Ord.digit=true) (hr:∀ c t,r=c :: t→Ord.digit c=false):(d ++ r).takeWhile Ord.digit=d∧(d ++ r).dropWhile Ord.digit=r:=by
 induction d with
 | nil=>
  cases r with
  | nil=>exact ⟨rfl,rfl⟩
  | cons c t=>
   have:=hr c t rfl
   simp [this]
 | cons x d ih=>
  simp only [List.all_cons,Bool.and_eq_true] at h
  obtain ⟨h1,h2⟩:=ih h.2
  rw [List.cons_append,List.takeWhile_cons,List.dropWhile_cons,h.1,if_pos rfl,if_pos rfl,h1,h2]
  exact ⟨rfl,rfl⟩
theorem digits_99 (a:Nat) (h:a < 100):(Lib.itoa a).all Ord.digit=true∧Ord.value (Lib.itoa a)=a∧0 < (Lib.itoa a).length∧(Lib.itoa a).length≤2:=by
 have:∀ x:Fin 100,(Lib.itoa (x.val:Int)).all Ord.digit=true∧Ord.value (Lib.itoa (x.val:Int))=x.val∧0 < (Lib.itoa (x.val:Int)).length∧(Lib.itoa (x.val:Int)).length≤2:=by decide +kernel
 exact this ⟨a,h⟩
theorem digit_of {c:UInt8} (h:Ord.digit c=true):(([48,49,50,51,52,53,54,55,56,57]:Bytes).contains c=true)∧gap c=false∧blank c=false:=by
 have:∀ n:Fin 256,Ord.digit (UInt8.ofNat n.val)=true→(([48,49,50,51,52,53,54,55,56,57]:Bytes).contains (UInt8.ofNat n.val)=true)∧gap (UInt8.ofNat n.val)=false∧blank (UInt8.ofNat n.val)=false:=by decide +kernel
 have h2:=this ⟨c.toNat,c.toNat_lt⟩
 rw [show UInt8.ofNat c.toNat=c by simp] at h2
 exact h2 h
theorem adr_num (a:Nat) (h1:1≤a) (h:a < 100) (r:Bytes) (hl:r.length≤100) (hr:∀ c t,r=c :: t→Ord.digit c=false):adr (Lib.itoa a ++ r)=some (some (.num a),r)∧blanks (Lib.itoa a ++ r)=Lib.itoa a ++ r∧(Lib.itoa a ++ r).dropWhile gap=Lib.itoa a ++ r:=by
 obtain ⟨d1,d2,d3,d4⟩:=digits_99 a h
 obtain ⟨s1,s2⟩:=digits_split (Lib.itoa a) r d1 hr
 have hnum:number 1 2147483647 (Lib.itoa a ++ r)=some (a,r):=by
  unfold number
  simp only [s1,s2,d2]
  have e1:(Lib.itoa a).isEmpty=false:=by
   cases hx:Lib.itoa (a:Int) with
   | nil=>rw [hx] at d3;simp at d3
   | cons _ _=>rfl
  rw [e1,if_pos (by simp;omega)]
 cases hx:Lib.itoa (a:Int) with
 | nil=>rw [hx] at d3;simp at d3
 | cons c t=>
  rw [hx] at d1 hnum
  simp only [List.all_cons,Bool.and_eq_true] at d1
  obtain ⟨g1,g2,g3⟩:=digit_of d1.1
  rw [List.cons_append] at hnum ⊢
  refine ⟨?_, ?_, ?_⟩
  ·unfold adr isIn
   simp only [g1,if_true,hnum,Option.map_some]
  ·unfold blanks
   rw [List.dropWhile_cons,g3]
   rfl
  ·rw [List.dropWhile_cons,g2]
   rfl
theorem read_range (a b:Nat) (ha:1≤a∧a < 100) (hb:1≤b∧b < 100) (c:UInt8) (neg:Bool) (hc:c=112∨c=100) :
  read (Lib.itoa a ++ 44 :: (Lib.itoa b ++ ((if neg then [33] else []) ++ [c])))=.ok [cmd0 c [.num a,.num b] neg]:=by
 obtain ⟨tl,htl⟩:∃ tl:Bytes,(if neg then [33] else []) ++ [c]=tl:=⟨_,rfl⟩
 have hnd:∀ x t,tl=x :: t→Ord.digit x=false:=by
  rintro x t rfl
  cases neg with
  | true=>simp at htl;obtain ⟨rfl,-⟩:=htl;rfl
  | false=>simp at htl;obtain ⟨rfl,-⟩:=htl;rcases hc with rfl | rfl <;> rfl
 have htl2:tl.length≤2:=by rw [← htl];cases neg <;> simp
 obtain ⟨-,-,-,hbl⟩:=digits_99 b hb.2
 obtain ⟨hb1,hb2,-⟩:=adr_num b hb.1 hb.2 tl (by omega) hnd
 obtain ⟨ha1,-,ha3⟩:=adr_num a ha.1 ha.2 (44 :: (Lib.itoa b ++ tl)) (by simp;omega) (fun x t e=>by injection e with e1 e2;subst e1;rfl)
 rw [htl]
 have hads:ads (Lib.itoa a ++ 44 :: (Lib.itoa b ++ tl))=some ([.num a,.num b],tl):=by
  unfold ads
  rw [ha1]
  simp only [hb2,hb1]
 have hwhere:whereF (Lib.itoa a ++ 44 :: (Lib.itoa b ++ tl))=some (cmd0 c [.num a,.num b] neg,[]):=by
  unfold whereF
  rw [hads]
  rw [← htl]
  cases neg with
  | true=>rcases hc with rfl | rfl <;> rfl
  | false=>rcases hc with rfl | rfl <;> rfl
 have hcmd:cmd ⟨Lib.itoa a ++ 44 :: (Lib.itoa b ++ tl),[],.no⟩=.ok ⟨[],[cmd0 c [.num a,.num b] neg],.no⟩:=by
  unfold cmd
  simp only [hwhere]
  rcases hc with rfl | rfl <;> rfl
 obtain ⟨x,t,hs⟩:∃ x t,Lib.itoa a ++ 44 :: (Lib.itoa b ++ tl)=x :: t:=by
  cases h:Lib.itoa a ++ 44 :: (Lib.itoa b ++ tl) with
  | nil=>simp at h
  | cons x t=>exact ⟨x,t,rfl⟩
 have hrd:readF ((Lib.itoa a ++ 44 :: (Lib.itoa b ++ tl)).length+1) ⟨Lib.itoa a ++ 44 :: (Lib.itoa b ++ tl),[],.no⟩=.ok ⟨[],[cmd0 c [.num a,.num b] neg],.no⟩:=by
  unfold readF
  simp only [ha3]
  rw [hs] at hcmd ⊢
  simp only [hcmd,List.length_cons]
  unfold readF
  rfl
 unfold read
 rw [hrd]
 rcases hc with rfl | rfl <;> rfl
end Go.Proofs.YtefpcacnblaokaaGreatDoor.Sd

/-
  What the law's run of a script comes to; the chapter's examples. Conditions: limits that may be; scripts that are told; what the library's variables hold.
-/
namespace Go.Proofs.YtefpcacnblaokaaGreatDoor
open Go.RowKit Go.Shelf Go.Maps
def RunS (rest:List Bts) (inp:Bts) (r:Int × Bts × Bts) (buf line run:Nat):Prop:=∀ (W:World) (pa:Option Addr) (ca:Nat) (pi:Option Addr) (ci:Nat),Glo W→Ss W pa rest→Bs W pi inp →
 Calls Tryz.prog 8 #[.slice pi inp.length ci,.agg #[.int .i64 buf,.int .i64 line,.int .i64 run],.slice pa rest.length ca] W fun e w'=>∃ ov ev steps peak,e=.returned (.tuple #[.agg #[ov,ev,.int .i64 r.1,.slice none 0 0,.int .i64 steps,.int .i64 peak,.int .i64 0],.bool true])∧Sl w' (fun g=>W.heap.size≤g) ov r.2.1∧Sl w' (fun g=>W.heap.size≤g) ev r.2.2∧Below W.heap.size W w'
theorem runS_of (rest:List Bts) (hpos:0 < rest.length) (hll:rest.length≤1000) (inp:Bts) (hin:inp.length≤4294967296) (buf line run:Nat) (h1:1≤buf) (h2:1≤line) (h3:line≤run) (h4:run≤1099511627776) (h5:buf≤1099511627776) (r:Int × Bts × Bts) (hr:r.2.1.length≤4294967296∧r.2.2.length≤4294967296)
  (hst:∀ w1,Glo w1→Starts w1 28 (tagSed :: rest) buf line run inp (EndS r)):RunS rest inp r buf line run:=by
 intro W pa ca pi ci hg ha hi
 refine (lawRun_any rest hpos hll pa ca pi ci inp hin buf line run h1 h2 h3 h4 h5 (EndS r) W hg (fun w1 hb=>hst w1 (hg.below hb)) (fun st o e h=>by obtain ⟨-,rfl,rfl⟩:=h;exact hr) ha hi).mono ?_
 rintro e w' ⟨ov,ev,st,steps,peak,out,err,rfl,so,se,⟨rfl,rfl,rfl⟩,hb⟩
 exact ⟨ov,ev,steps,peak,rfl,so,se,hb⟩
theorem errF_len (b:Bool):(errF b).length≤4294967296:=by
 unfold errF
 split
 ·have:=wordOf_len 18
  unfold diagOf tagSed
  simp
  omega
 ·simp
theorem run_script (rest:List Bts) (hpos:0 < rest.length) (hll:rest.length≤1000) (htot:totL rest≤1000000) (L:List (UInt8 × Bts)) (script:Bts) (hp:Op.parse [110,101,58,102,58] rest=some (L,[script])) (hLN:L.length≤1000000) (hL1:Op.has L 101=false) (hL2:Op.has L 102=false)
  (hsl:script.length≤900000) (hs35:∀ r,script≠35 :: r) (inp:Bts) (hin:inp.length≤100000) (cs:List Sd.Cmd) (hrd:Sd.read script=.ok cs) (hok:ScriptOk cs) (buf line run:Nat) (h1:1≤buf) (h2:1≤line) (h3:line≤run) (h4:run≤1099511627776) (h5:buf≤1099511627776)
  (gf f:Nat) (q:Sd.St) (hrun:Sd.run line (Op.has L 110) cs gf f (Sd.begun cs inp)=some q) (hq:q.out.length≤4294967296):RunS rest inp (resF q) buf line run:=by
 refine runS_of rest hpos hll inp (by omega) buf line run h1 h2 h3 h4 h5 _ ⟨hq,errF_len _⟩ fun w1 hg F M ha _ hline _ hw0=>?_
 subst hw0
 refine ⟨52,enters_of Tryz.func52 (by kernel_rfl) rfl,fun W hW=>start_sed F M inp rest ha W hW,fun W hW=>?_⟩
 refine (sedMain_any F M inp rest ha (by intro e;rw [e] at hpos;cases hpos) htot L script hp hLN hL1 hL2 hsl hs35 hg hin cs hrd hok gf f q (by rw [hline];exact hrun) W hW).mono fun e w' h=>EndS.of h
theorem run_bad (rest:List Bts) (hpos:0 < rest.length) (hll:rest.length≤1000) (htot:totL rest≤1000000) (L:List (UInt8 × Bts)) (script:Bts) (hp:Op.parse [110,101,58,102,58] rest=some (L,[script])) (hLN:L.length≤1000000) (hL1:Op.has L 101=false) (hL2:Op.has L 102=false)
  (hsl:script.length≤900000) (inp:Bts) (hin:inp.length≤100000) (kb:Nat) (hkb:0 < kb∧kb < 27) (hrd:Sd.read script=.bad kb) (buf line run:Nat) (h1:1≤buf) (h2:1≤line) (h3:line≤run) (h4:run≤1099511627776) (h5:buf≤1099511627776):RunS rest inp (1,[],diagOf tagSed [] kb) buf line run:=by
 refine runS_of rest hpos hll inp (by omega) buf line run h1 h2 h3 h4 h5 _ ⟨by simp,diag_lenS kb⟩ fun w1 hg F M ha _ hline _ hw0=>?_
 subst hw0
 refine ⟨52,enters_of Tryz.func52 (by kernel_rfl) rfl,fun W hW=>start_sed F M inp rest ha W hW,fun W hW=>?_⟩
 refine (sedMain_bad F M inp rest ha (by intro e;rw [e] at hpos;cases hpos) htot L script hp hLN hL1 hL2 hsl hg kb hkb hrd W hW).mono fun e w' h=>EndS.of h
def adrB:Sd.Adr→Bool
 | .num n=>decide (n≤1000000000)
 | _=>true
def cmdB (i:Nat) (x:Sd.Cmd):Bool:=
 (match x.ads with
  | []=>true
  | [a]=>adrB a
  | [.num a,b]=>i == 0 && decide (a≤1000000000) && adrB b && !(match b with | .fin=>true | _=>false)
  | _=>false) && (x.c != 115 || (!x.prt && decide (x.rep.length≤1000))) && decide (x.dest≤1000000)
def okB:Nat→List Sd.Cmd→Bool
 | _,[]=>true
 | i,x :: r=>cmdB i x && okB (i+1) r
theorem adrB_of {a:Sd.Adr} (h:adrB a=true):AdrS a:=by
 cases a with
 | num n=>
  have h2:n≤1000000000:=of_decide_eq_true h
  exact h2
 | fin=>trivial
 | rx b=>trivial
theorem cmdB_of {i:Nat} {x:Sd.Cmd} (h:cmdB i x=true):CmdOk i x∧VerbOk x∧x.dest≤1000000:=by
 unfold cmdB at h
 rw [Bool.and_eq_true,Bool.and_eq_true] at h
 obtain ⟨⟨h1,h2⟩,h3⟩:=h
 refine ⟨?_,fun hc=>?_,of_decide_eq_true h3⟩
 ·unfold CmdOk
  split at h1
  ·rename_i e;rw [e];trivial
  ·rename_i a e;rw [e];exact adrB_of h1
  ·rename_i a b e
   rw [e]
   simp only [Bool.and_eq_true,beq_iff_eq,decide_eq_true_eq,Bool.not_eq_true'] at h1
   obtain ⟨⟨⟨i0,ha⟩,hb⟩,hf⟩:=h1
   exact ⟨i0,ha,adrB_of hb,fun e2=>by rw [e2] at hf;cases hf⟩
  ·cases h1
 ·rw [hc] at h2
  simp only [bne_self_eq_false,Bool.false_or,Bool.and_eq_true,Bool.not_eq_true',decide_eq_true_eq] at h2
  exact h2
theorem okB_at:∀ (cs:List Sd.Cmd) (k:Nat),okB k cs=true→∀ i,i < cs.length→cmdB (k+i) (cs.getD i default)=true
 | [],_,_,i,hi=>absurd hi (Nat.not_lt_zero _)
 | x :: r,k,h,i,hi=>by
  rw [okB,Bool.and_eq_true] at h
  cases i with
  | zero=>exact h.1
  | succ i=>
   have:=okB_at r (k+1) h.2 i (by simpa using hi)
   rw [show k+(i+1)=k+1+i by omega]
   simpa [List.getD_eq_getElem?_getD] using this
theorem okB_of {cs:List Sd.Cmd} (h:okB 0 cs=true) (hl:cs.length≤1000000):ScriptOk cs:=⟨hl,fun i hi=>by
 have:=okB_at cs 0 h i hi
 rw [Nat.zero_add] at this
 exact cmdB_of this⟩
theorem run_sed (rest:List Bts) (hpos:0 < rest.length) (hll:rest.length≤1000) (htot:totL rest≤1000000) (L:List (UInt8 × Bts)) (script:Bts) (hp:Op.parse [110,101,58,102,58] rest=some (L,[script])) (hLN:L.length≤1000000) (hL1:Op.has L 101=false) (hL2:Op.has L 102=false)
  (hsl:script.length≤900000) (hs35:∀ r,script≠35 :: r) (inp:Bts) (hin:inp.length≤100000) (cs:List Sd.Cmd) (hrd:Sd.read script=.ok cs) (hok:okB 0 cs=true) (hcl:cs.length≤1000000) (gf f:Nat) (out:Bts) (ho:out.length≤4294967296) (hs:Sd.sed 9 (Op.has L 110) script inp gf f=some (0,out)):RunS rest inp (0,out,[]) 3 9 9:=by
 unfold Sd.sed at hs
 rw [hrd] at hs
 simp only at hs
 cases hr:Sd.run 9 (Op.has L 110) cs gf f (Sd.begun cs inp) with
 | none=>rw [hr] at hs;cases hs
 | some q=>
  rw [hr] at hs
  simp only [Option.map_some,Option.some.injEq,Prod.mk.injEq] at hs
  obtain ⟨h0,rfl⟩:=hs
  have hf:q.failed=false:=by
   cases hq:q.failed with
   | false=>rfl
   | true=>rw [hq] at h0;cases h0
  have:=run_script rest hpos hll htot L script hp hLN hL1 hL2 hsl hs35 inp hin cs hrd (okB_of hok hcl) 3 9 9 (by decide) (by decide) (by decide) (by decide) (by decide) gf f q hr ho
  unfold resF at this
  rw [hf] at this
  exact this
theorem ex_a:RunS [[50,100]] [97,10,98,10,99,10] (0,[97,10,99,10],[]) 3 9 9:=
 run_sed [[50,100]] (by decide) (by decide) (by decide) [] [50,100] (by decide) (by decide) (by decide) (by decide) (by decide) (fun r e=>by cases e) _ (by decide) _ Sd.read_a (by kernel_rfl) (by decide) 40 9 _ (by decide) Sd.sed_a
theorem ex_b:RunS [[45,110],[36,112]] [97,10,98,10,99,10] (0,[99,10],[]) 3 9 9:=
 run_sed [[45,110],[36,112]] (by decide) (by decide) (by decide) [(110,[])] [36,112] (by decide) (by decide) (by decide) (by decide) (by decide) (fun r e=>by cases e) _ (by decide) _ Sd.read_b (by kernel_rfl) (by decide) 40 9 _ (by decide) Sd.sed_b
theorem ex_c:RunS [[115,47,98,47,91,38,93,47]] [97,10,98,10,99,10] (0,[97,10,91,98,93,10,99,10],[]) 3 9 9:=
 run_sed [[115,47,98,47,91,38,93,47]] (by decide) (by decide) (by decide) [] _ (by decide) (by decide) (by decide) (by decide) (by decide) (fun r e=>by cases e) _ (by decide) _ Sd.read_c (by kernel_rfl) (by decide) 40 9 _ (by decide) Sd.sed_c
theorem ex_d:RunS [[49,44,47,98,47,121,47,97,98,47,65,66,47]] [97,10,98,10,99,10] (0,[65,10,66,10,99,10],[]) 3 9 9:=
 run_sed [[49,44,47,98,47,121,47,97,98,47,65,66,47]] (by decide) (by decide) (by decide) [] _ (by decide) (by decide) (by decide) (by decide) (by decide) (fun r e=>by cases e) _ (by decide) _ Sd.read_d (by kernel_rfl) (by decide) 40 9 _ (by decide) Sd.sed_d
theorem ex_e:RunS [[45,110],[72,59,36,123,120,59,115,47,92,110,47,44,47,103,59,112,125]] [97,10,98,10,99,10] (0,[44,97,44,98,44,99,10],[]) 3 9 9:=
 run_sed [[45,110],[72,59,36,123,120,59,115,47,92,110,47,44,47,103,59,112,125]] (by decide) (by decide) (by decide) [(110,[])] _ (by decide) (by decide) (by decide) (by decide) (by decide) (fun r e=>by cases e) _ (by decide) _ Sd.read_e (by kernel_rfl) (by decide) 40 9 _ (by decide) Sd.sed_e
theorem ex_f:RunS [[115,47,97]] [] (1,[],diagOf tagSed [] 21) 3 9 9:=
 run_bad [[115,47,97]] (by decide) (by decide) (by decide) [] _ (by decide) (by decide) (by decide) (by decide) (by decide) [] (by decide) 21 (by decide) Sd.read_bad 3 9 9 (by decide) (by decide) (by decide) (by decide) (by decide)
end Go.Proofs.YtefpcacnblaokaaGreatDoor

/-
  The walks of the law's says and awake. Condition: what the library's variables hold.
-/
set_option maxRecDepth 100000
set_option maxHeartbeats 4000000
namespace Go.Proofs.YtefpcacnblaokaaGreatDoor
open Go.RowKit Go.Shelf Go.Maps
theorem ss_lit {W:World} {b:Nat} {l:List Bts} {t:TypeId} (h:Blk W b (l.map strV).toArray t):Ss W (some ⟨b,0,none⟩) l:=fun _=>⟨b,0,rfl,fun i hi=>by
 rw [Nat.zero_add]
 refine h.cell i ?_
 rw [List.getElem?_toArray,List.getElem?_map,List.getElem?_eq_getElem hi,List.getD_eq_getElem?_getD,List.getElem?_eq_getElem hi]
 rfl⟩
theorem bs_lit {W:World} {b:Nat} {l:Bts} {t:TypeId} {f:Nat × Nat} (h:W.heap[b]?=some (.cells (l.map u8V).toArray t f)):Bs W (some ⟨b,0,none⟩) l:=fun _=>⟨b,0,rfl,fun i hi=>by
 rw [Nat.zero_add,Lib.cell_of_heap h,List.getElem?_toArray,List.getElem?_map,List.getElem?_eq_getElem hi,List.getD_eq_getElem?_getD,List.getElem?_eq_getElem hi]
 rfl⟩
theorem says_any (want:Bts) (args:List Bts) (hr:RunS args [97,10,98,10,99,10] (0,want,[]) 3 9 9) (pa:Option Addr) (ca:Nat) (w:World) (hg:Glo w) (ha:Ss w pa args) :
  Calls Tryz.prog 11 #[.string ⟨want.toArray⟩,.slice pa args.length ca] w fun e w'=>e=.returned (.bool true)∧Below w.heap.size w w':=by
 obtain ⟨x,hx⟩:∃ x,w.alloc (.cells #[.int .u8 97,.int .u8 10,.int .u8 98,.int .u8 10,.int .u8 99,.int .u8 10] 5 (6,7))=x:=⟨_,rfl⟩
 have hb1:Below w.heap.size w x:=by rw [← hx];exact (Below.refl _ _).alloc (Nat.le_refl _) _
 have hbs1:Bs x (some ⟨w.heap.size,0,none⟩) [97,10,98,10,99,10]:=by
  rw [← hx]
  exact bs_lit (t:=5) (f:=(6,7)) (heap_alloc_new w _)
 have hrun:=hr x pa ca (some ⟨w.heap.size,0,none⟩) 6 (hg.below hb1) (ha.below hb1) hbs1
 have hcv:=Joins.run_convert_bytes_const_at (P:=Tryz.prog) w 22 5 #[.int .u8 97,.int .u8 10,.int .u8 98,.int .u8 10,.int .u8 99,.int .u8 10] 6 6 w.heap.size rfl Tryz.underlying22 Tryz.underlying5
 have HX:=Lib.hid hx
 have HB1:=Lib.hid hb1
 clear hr ha hg hb1 hbs1 hx
 go_enter Tryz.func11,Tryz.ntmps11
 go_wp2_with fail
 rw [HX.out]
 refine hrun.mono ?_
 rintro e w2 ⟨ov,ev,st,pk,rfl,so,se,hb2⟩
 obtain ⟨p1,c1,rfl,hbs2,-⟩:=id so.bs
 obtain ⟨p2,c2,rfl,-,-⟩:=id se.bs
 obtain ⟨w3,hw3⟩:∃ w3,w2.alloc (.cells #[.slice p1 want.length c1,.slice p2 0 c2,.int .i64 0,.slice none 0 0,.int .i64 st,.int .i64 pk,.int .i64 0] 35)=w3:=⟨_,rfl⟩
 have hb23:Below w2.heap.size w2 w3:=by rw [← hw3];exact (Below.refl _ _).alloc (Nat.le_refl _) _
 have hk3:Blk w3 w2.heap.size #[.slice p1 want.length c1,.slice p2 0 c2,.int .i64 0,.slice none 0 0,.int .i64 st,.int .i64 pk,.int .i64 0] 35:=by rw [← hw3];exact Blk.new _ _ _
 have hbs3:=hbs2.below hb23 (Nat.le_refl _)
 have hcv2:=run_str hbs3 c1
 have r0:=hk3.cell 0 (v:=.slice p1 want.length c1) rfl
 have r2:=hk3.cell 2 (v:=.int .i64 0) rfl
 have HW3:=Lib.hid hw3
 have HB3:=Lib.hid (HB1.out.trans ((hb2.trans (hb23.mono hb2.size)).mono HB1.out.size))
 clear hrun so se hb2 hbs2 hb23 hk3 hbs3 hw3 hcv
 go_upto_region 2 with fail
 rw [HW3.out]
 go_wp2_with fail
 go_ret
 exact ⟨by simp,HB3.out⟩
end Go.Proofs.YtefpcacnblaokaaGreatDoor

/-
  The walk of the law's awake. Condition: what the library's variables hold.
-/
set_option maxRecDepth 100000
set_option maxHeartbeats 8000000
namespace Go.Proofs.YtefpcacnblaokaaGreatDoor
open Go.RowKit Go.Shelf Go.Maps
theorem awake_any (w:World) (hg:Glo w):Calls Tryz.prog 5 #[] w fun e w'=>e=.returned (.bool true)∧Below w.heap.size w w':=by
 have HG:=Lib.hid hg
 have HB0:=Lib.hid (Below.refl w.heap.size w)
 clear hg
 obtain ⟨x0,hx0⟩:∃ x,w.alloc (.cells #[.string ⟨#[50,100]⟩] 9)=x:=⟨_,rfl⟩
 have hbx0:Below w.heap.size w x0:=by rw [← hx0];exact (Below.refl _ _).alloc (Nat.le_refl _) _
 have hss0:Ss x0 (some ⟨w.heap.size,0,none⟩) [[50,100]]:=ss_lit (t:=9) (by rw [← hx0];exact Blk.new _ _ _)
 have HX0:=Lib.hid hx0
 have HBX0:=Lib.hid (HB0.out.trans (hbx0.mono HB0.out.size))
 have hs0:=says_any [97,10,99,10] [[50,100]] ex_a (some ⟨w.heap.size,0,none⟩) 1 x0 (HG.out.below HBX0.out) hss0
 clear hx0 hbx0 hss0
 go_enter Tryz.func5,Tryz.ntmps5
 go_wp2_with fail
 rw [HX0.out]
 refine hs0.mono ?_
 rintro e w1 ⟨rfl,hb1⟩
 have HB1:=Lib.hid (HBX0.out.trans (hb1.mono HBX0.out.size))
 clear hs0 hb1
 obtain ⟨x1,hx1⟩:∃ x,w1.alloc (.cells #[.string ⟨#[45,110]⟩,.string ⟨#[36,112]⟩] 9)=x:=⟨_,rfl⟩
 have hbx1:Below w1.heap.size w1 x1:=by rw [← hx1];exact (Below.refl _ _).alloc (Nat.le_refl _) _
 have hss1:Ss x1 (some ⟨w1.heap.size,0,none⟩) [[45,110],[36,112]]:=ss_lit (t:=9) (by rw [← hx1];exact Blk.new _ _ _)
 have HX1:=Lib.hid hx1
 have HBX1:=Lib.hid (HB1.out.trans (hbx1.mono HB1.out.size))
 have hs1:=says_any [99,10] [[45,110],[36,112]] ex_b (some ⟨w1.heap.size,0,none⟩) 2 x1 (HG.out.below HBX1.out) hss1
 clear hx1 hbx1 hss1
 go_wp2_with fail
 rw [HX1.out]
 refine hs1.mono ?_
 rintro e w2 ⟨rfl,hb2⟩
 have HB2:=Lib.hid (HBX1.out.trans (hb2.mono HBX1.out.size))
 clear hs1 hb2
 obtain ⟨x2,hx2⟩:∃ x,w2.alloc (.cells #[.string ⟨#[115,47,98,47,91,38,93,47]⟩] 9)=x:=⟨_,rfl⟩
 have hbx2:Below w2.heap.size w2 x2:=by rw [← hx2];exact (Below.refl _ _).alloc (Nat.le_refl _) _
 have hss2:Ss x2 (some ⟨w2.heap.size,0,none⟩) [[115,47,98,47,91,38,93,47]]:=ss_lit (t:=9) (by rw [← hx2];exact Blk.new _ _ _)
 have HX2:=Lib.hid hx2
 have HBX2:=Lib.hid (HB2.out.trans (hbx2.mono HB2.out.size))
 have hs2:=says_any [97,10,91,98,93,10,99,10] [[115,47,98,47,91,38,93,47]] ex_c (some ⟨w2.heap.size,0,none⟩) 1 x2 (HG.out.below HBX2.out) hss2
 clear hx2 hbx2 hss2
 go_wp2_with fail
 rw [HX2.out]
 refine hs2.mono ?_
 rintro e w3 ⟨rfl,hb3⟩
 have HB3:=Lib.hid (HBX2.out.trans (hb3.mono HBX2.out.size))
 clear hs2 hb3
 obtain ⟨x3,hx3⟩:∃ x,w3.alloc (.cells #[.string ⟨#[49,44,47,98,47,121,47,97,98,47,65,66,47]⟩] 9)=x:=⟨_,rfl⟩
 have hbx3:Below w3.heap.size w3 x3:=by rw [← hx3];exact (Below.refl _ _).alloc (Nat.le_refl _) _
 have hss3:Ss x3 (some ⟨w3.heap.size,0,none⟩) [[49,44,47,98,47,121,47,97,98,47,65,66,47]]:=ss_lit (t:=9) (by rw [← hx3];exact Blk.new _ _ _)
 have HX3:=Lib.hid hx3
 have HBX3:=Lib.hid (HB3.out.trans (hbx3.mono HB3.out.size))
 have hs3:=says_any [65,10,66,10,99,10] [[49,44,47,98,47,121,47,97,98,47,65,66,47]] ex_d (some ⟨w3.heap.size,0,none⟩) 1 x3 (HG.out.below HBX3.out) hss3
 clear hx3 hbx3 hss3
 go_wp2_with fail
 rw [HX3.out]
 refine hs3.mono ?_
 rintro e w4 ⟨rfl,hb4⟩
 have HB4:=Lib.hid (HBX3.out.trans (hb4.mono HBX3.out.size))
 clear hs3 hb4
 obtain ⟨x4,hx4⟩:∃ x,w4.alloc (.cells #[.string ⟨#[45,110]⟩,.string ⟨#[72,59,36,123,120,59,115,47,92,110,47,44,47,103,59,112,125]⟩] 9)=x:=⟨_,rfl⟩
 have hbx4:Below w4.heap.size w4 x4:=by rw [← hx4];exact (Below.refl _ _).alloc (Nat.le_refl _) _
 have hss4:Ss x4 (some ⟨w4.heap.size,0,none⟩) [[45,110],[72,59,36,123,120,59,115,47,92,110,47,44,47,103,59,112,125]]:=ss_lit (t:=9) (by rw [← hx4];exact Blk.new _ _ _)
 have HX4:=Lib.hid hx4
 have HBX4:=Lib.hid (HB4.out.trans (hbx4.mono HB4.out.size))
 have hs4:=says_any [44,97,44,98,44,99,10] [[45,110],[72,59,36,123,120,59,115,47,92,110,47,44,47,103,59,112,125]] ex_e (some ⟨w4.heap.size,0,none⟩) 2 x4 (HG.out.below HBX4.out) hss4
 clear hx4 hbx4 hss4
 go_wp2_with fail
 rw [HX4.out]
 refine hs4.mono ?_
 rintro e w5 ⟨rfl,hb5⟩
 have HB5:=Lib.hid (HBX4.out.trans (hb5.mono HBX4.out.size))
 clear hs4 hb5
 obtain ⟨x5,hx5⟩:∃ x,w5.alloc (.cells #[.string ⟨#[115,47,97]⟩] 9)=x:=⟨_,rfl⟩
 have hbx5:Below w5.heap.size w5 x5:=by rw [← hx5];exact (Below.refl _ _).alloc (Nat.le_refl _) _
 have hss5:Ss x5 (some ⟨w5.heap.size,0,none⟩) [[115,47,97]]:=ss_lit (t:=9) (by rw [← hx5];exact Blk.new _ _ _)
 have HX5:=Lib.hid hx5
 have HBX5:=Lib.hid (HB5.out.trans (hbx5.mono HB5.out.size))
 have hr5:=ex_f x5 (some ⟨w5.heap.size,0,none⟩) 1 none 0 (HG.out.below HBX5.out) hss5 (Bs.nil _ _)
 clear hx5 hbx5 hss5
 go_wp2_with fail
 rw [HX5.out]
 refine hr5.mono ?_
 rintro e w6 ⟨ov,ev,st,pk,rfl,so,se,hb6⟩
 obtain ⟨p1,c1,rfl,-,-⟩:=id so.bs
 obtain ⟨p2,c2,he,hbs,-⟩:=id se.bs
 have hde:diagOf tagSed [] 21=[115,101,100,58,32,98,97,100,32,115,99,114,105,112,116,10]:=by decide
 replace hbs:Bs w6 p2 (diagOf tagSed [] 21):=hbs
 replace he:ev=.slice p2 (diagOf tagSed [] 21).length c2:=he
 rw [hde] at he hbs
 replace he:ev=.slice p2 16 c2:=he
 subst he
 obtain ⟨w7,hw7⟩:∃ w7,w6.alloc (.cells #[.slice p1 0 c1,.slice p2 16 c2,.int .i64 1,.slice none 0 0,.int .i64 st,.int .i64 pk,.int .i64 0] 35)=w7:=⟨_,rfl⟩
 have hb67:Below w6.heap.size w6 w7:=by rw [← hw7];exact (Below.refl _ _).alloc (Nat.le_refl _) _
 have hk7:Blk w7 w6.heap.size #[.slice p1 0 c1,.slice p2 16 c2,.int .i64 1,.slice none 0 0,.int .i64 st,.int .i64 pk,.int .i64 0] 35:=by rw [← hw7];exact Blk.new _ _ _
 have hcv:(convert 22 9 (.slice p2 16 c2)).run Tryz.prog w7=.ok (.string ⟨#[115,101,100,58,32,98,97,100,32,115,99,114,105,112,116,10]⟩) w7:=run_str (hbs.below hb67 (Nat.le_refl _)) c2
 have r1:=hk7.cell 1 (v:=.slice p2 16 c2) rfl
 have r2:=hk7.cell 2 (v:=.int .i64 1) rfl
 have hb7:Below w.heap.size w w7:=HBX5.out.trans ((hb6.trans (hb67.mono hb6.size)).mono HBX5.out.size)
 have hck:=check_any [112] (.bool false) _ Sd.read_p (by decide) w7 (HG.out.below hb7)
 have HW7:=Lib.hid hw7
 have HB7:=Lib.hid hb7
 clear hr5 so se hb6 hbs hb67 hk7 hw7 hb7
 go_upto_region 7 with fail
 rw [HW7.out]
 go_wp2_with fail
 refine hck.mono ?_
 rintro e w8 ⟨rfl,hb8⟩
 have HB8:=Lib.hid (HB7.out.trans (hb8.mono HB7.out.size))
 clear hck hb8
 go_wp2_with fail
 go_ret
 exact ⟨rfl,HB8.out⟩
end Go.Proofs.YtefpcacnblaokaaGreatDoor

/-
  The walks of the document's Digits (base 10, small numbers) and Lines. Conditions: numbers below 256; lengths.
-/
set_option maxRecDepth 100000
set_option maxHeartbeats 8000000
namespace Go.Proofs.YtefpcacnblaokaaGreatDoor
open Go.RowKit Go.Shelf Go.Maps
theorem Wi.lineOf_app:∀ (l t:Bts),(∀ c ∈ l,c≠10) →  Wi.lineOf (l ++ 10 :: t)=(l,true,t):=by
 intro l
 induction l with
 | nil=>intro t _;rfl
 | cons c r ih=>
  intro t h
  rw [List.cons_append,lineOf,if_neg (h c (by simp)),ih t (fun x hx=>h x (by simp [hx]))]
theorem Wi.lineOf_all:∀ (l:Bts),(∀ c ∈ l,c≠10)→Wi.lineOf l=(l,false,[]):=by
 intro l
 induction l with
 | nil=>intro _;rfl
 | cons c r ih=>
  intro h
  rw [Wi.lineOf,if_neg (h c (by simp)),ih (fun x hx=>h x (by simp [hx]))]
def dig (d:Nat):UInt8:=UInt8.ofNat (if d < 10 then 48+d else 87+d)
theorem byteAt (l:List UInt8) (c:Nat) (h:c < (⟨l.toArray⟩:ByteArray).size):(⟨l.toArray⟩:ByteArray)[c]=l.getD c 0:=by
 have h2:c < l.length:=by simpa [ByteArray.size] using h
 show l.toArray[c]=_
 simp [List.getD_eq_getElem?_getD,List.getElem?_eq_getElem h2]
theorem digits10_len:∀ c:Nat,c < 256→(Rg.Rx.digitsF 10 20 c).length≤3:=by decide +kernel
theorem conv_one (c:UInt8) (W:World):(convert 22 9 (.slice (some ⟨W.heap.size,0,none⟩) 1 1)).run Tryz.prog (W.alloc (.cells #[.int .u8 c.toNat] 5))=.ok (.string ⟨#[c]⟩) (W.alloc (.cells #[.int .u8 c.toNat] 5)):=
 run_str (bs_one W c 5) 1
def hex16:List UInt8:=[48,49,50,51,52,53,54,55,56,57,97,98,99,100,101,102]
theorem hex16_dig:∀ c:Nat,c < 16→hex16.getD c 0=dig c:=by decide
theorem dig_itoa:∀ c:Nat,c < 256→Rg.Rx.digitsF 10 20 c=Lib.itoa (c:Int):=by decide +kernel
theorem dec_step:∀ n:Nat,n < 256→Rg.Rx.digitsF 10 20 n=(if n / 10=0 then [] else Rg.Rx.digitsF 10 20 (n / 10)) ++ [dig (n % 10)]:=by decide +kernel
theorem catS' (c:UInt8) (s:Bts):(⟨#[c]⟩:ByteArray) ++ ⟨s.toArray⟩=⟨(c :: s).toArray⟩:=by
 apply ByteArray.ext;simp
def strZero:Value→Nat
 | .string s=>if s.size=0 then 1 else 0
 | _=>0
theorem strZero_cons (c:UInt8) (l:Bts):strZero (.string ⟨(c :: l).toArray⟩)=0:=by
 show (if (c :: l).toArray.size=0 then 1 else 0)=0
 rw [if_neg (by simp)]
theorem rdigits_any (c:Nat) (hc:c < 256) (w:World) :
  Calls Tryz.prog 7 #[.int .i64 c,.int .i64 10] w fun e w'=>e=.returned (.string ⟨(Rg.Rx.digitsF 10 20 c).toArray⟩)∧Below w.heap.size w w':=by
 have hneg:¬ ((c:Int) < 0):=by omega
 go_enter Tryz.func7,Tryz.ntmps7
 go_wp2_with fail
 go_loopw [6,7,8] (fun x6 x7 _ wr=>∃ (r:Nat) (out:Bts),r < 256∧x7=.int .i64 r∧x6=.string ⟨out.toArray⟩∧out.length≤3∧Below w.heap.size w wr∧Hid ((out=[]∧r=c)∨(out≠[]∧Rg.Rx.digitsF 10 20 c=(if r=0 then [] else Rg.Rx.digitsF 10 20 r) ++ out))) (fun x6 x7 _ _=>(intOf x7).toNat+strZero x6)
 case atStart=>exact ⟨c,[],hc,rfl,rfl,by simp,Below.refl _ _,.inl ⟨rfl,rfl⟩⟩
 case round=>
  obtain ⟨r,out,hr,rfl,rfl,hol,hbw,HI⟩:=hrel
  have HN:Hid (r≠0→∀ t:UInt8,t=dig (r % 10)→t :: out≠[]∧Rg.Rx.digitsF 10 20 c=(if r / 10=0 then [] else Rg.Rx.digitsF 10 20 (r / 10)) ++ (t :: out)):=by
   rintro h0 t rfl
   refine ⟨by simp, ?_⟩
   rcases HI.out with ⟨rfl,rfl⟩ | ⟨h1,h2⟩
   ·exact dec_step r hc
   ·rw [h2,if_neg h0,dec_step r hr]
    simp
  have hm:r % 10 < 16:=by omega
  have HD:Hid ((⟨hex16.toArray⟩:ByteArray)[r % 10]'(by simp [hex16,ByteArray.size];omega)=dig (r % 10)):=(byteAt hex16 (r % 10) _).trans (hex16_dig _ hm)
  have q2:0≤(r:Int) % 10:=by omega
  have q3:(r:Int) % 10 < 16:=by omega
  have hwr:IntKind.i64.wrap ((r:Int) / 10)=(r:Int) / 10:=by simp [IntKind.wrap,IntKind.signed,IntKind.bits];omega
  have t1:((r:Int) % 10).toNat=r % 10:=by omega
  have q6:¬ ((r:Int) % 10 < 0):=by omega
  have hcv:=fun v=>conv_one v wr
  by_cases h0:r=0
  ·by_cases hne:out=[]
   ·subst hne
    subst h0
    have hc0:c=0:=by rcases HI.out with ⟨-,h⟩ | ⟨h,-⟩;exact h.symm;exact absurd rfl h
    subst hc0
    have HZ:Hid ((⟨hex16.toArray⟩:ByteArray)[0]'(by decide)=48):=rfl
    go_wp2_with fail
    refine ⟨⟨0,[48],by decide,rfl,rfl,by decide,hbw.alloc hbw.size _,.inr ⟨by simp,by decide⟩⟩, ?_⟩
    decide
   ·subst h0
    have HE:Hid (Rg.Rx.digitsF 10 20 c=out):=by
     show _=_
     rcases HI.out with ⟨h,-⟩ | ⟨-,h⟩
     ·exact absurd h hne
     ·simpa using h
    have hem:List.isEmpty out=false:=by cases out;exact absurd rfl hne;rfl
    go_wp2_with fail
    go_ret
    rw [HE.out]
    exact ⟨rfl,hbw⟩
  ·have hr0:¬ ((r:Int)=0):=by omega
   have hdl:=digits10_len c hc
   go_wp2_with fail
   obtain ⟨n1,n2⟩:=HN.out h0 _ HD.out
   refine ⟨⟨r / 10,_,by omega,by simp,congrArg Value.string (catS' _ out), ?_,hbw.alloc hbw.size _,.inr ⟨n1,n2⟩⟩, ?_⟩
   ·have:=congrArg List.length n2
    simp only [List.length_append,List.length_cons] at this ⊢
    omega
   ·show ((r:Int) / 10).toNat+strZero (.string (_ ++ _)) < (r:Int).toNat+_
    have hz:strZero (.string ((⟨#[(⟨hex16.toArray⟩:ByteArray)[r % 10]'(by simp [hex16,ByteArray.size];omega)]⟩:ByteArray) ++ ⟨out.toArray⟩))=0:=by
     rw [catS']
     exact strZero_cons _ _
    calc ((r:Int) / 10).toNat+strZero _=((r:Int) / 10).toNat+0:=congrArg (((r:Int) / 10).toNat+·) hz
     _ < (r:Int).toNat:=by omega
     _≤_:=Nat.le_add_right _ _
theorem lines_at (s:Bts) (a i:Nat) (h:a≤i) (hi:i < s.length) (hn:∀ k,a≤k→k < i→s.getD k 0≠10) (hs:s.getD i 0=10):Wi.lines (s.drop a)=(s.drop a).take (i - a) :: Wi.lines (s.drop (i+1)):=by
 have e1:s.drop a=(s.drop a).take (i - a) ++ s.drop i:=by
  conv=>lhs;rw [← List.take_append_drop (i - a) (s.drop a)]
  rw [List.drop_drop]
  congr 2
  omega
 have e2:s.drop i=10 :: s.drop (i+1):=by
  rw [List.drop_eq_getElem_cons hi,← hs,List.getD_eq_getElem?_getD,List.getElem?_eq_getElem hi];rfl
 have hno:∀ c ∈ (s.drop a).take (i - a),c≠10:=fun x hx=>by
  obtain ⟨j,hj⟩:=List.mem_iff_getElem?.1 hx
  rw [List.getElem?_take] at hj
  split at hj
  ·rename_i hji
   rw [List.getElem?_drop] at hj
   have:=hn (a+j) (by omega) (by omega)
   rw [List.getD_eq_getElem?_getD,hj] at this
   exact this
  ·cases hj
 have hl:=Wi.lineOf_app ((s.drop a).take (i - a)) (s.drop (i+1)) hno
 rw [← e2,← e1] at hl
 rw [Wi.lines_cons _ (by intro e;have:=congrArg List.length e;rw [List.length_drop] at this;simp at this;omega),hl]
theorem lines_end (s:Bts) (a:Nat) (ha:a < s.length) (hn:∀ k,a≤k→k < s.length→s.getD k 0≠10):Wi.lines (s.drop a)=[s.drop a]:=by
 have hno:∀ c ∈ s.drop a,c≠10:=fun x hx=>by
  obtain ⟨j,hj⟩:=List.mem_iff_getElem?.1 hx
  rw [List.getElem?_drop] at hj
  have:=hn (a+j) (by omega) (List.getElem?_eq_some_iff.1 hj).1
  rw [List.getD_eq_getElem?_getD,hj] at this
  exact this
 rw [Wi.lines_cons _ (by intro e;have:=congrArg List.length e;rw [List.length_drop] at this;simp at this;omega),Wi.lineOf_all _ hno]
 rfl
def SubV (b o c:Nat) (inp:Bts) (v:Value) (l:Bts):Prop:=∃ a,v=.slice (some ⟨b,o+a,none⟩) l.length (c - a)∧a+l.length≤inp.length∧(inp.drop a).take l.length=l
def SubsV (b o c:Nat) (inp:Bts) (vs:List Value) (ls:List Bts):Prop:=vs.length=ls.length∧∀ j,j < ls.length→∃ v,vs[j]?=some v∧SubV b o c inp v (ls.getD j [])
theorem SubsV.push {b o c:Nat} {inp:Bts} {vs:List Value} {ls:List Bts} (h:SubsV b o c inp vs ls) {v:Value} {l:Bts} (hv:SubV b o c inp v l):SubsV b o c inp (vs ++ [v]) (ls ++ [l]):=by
 refine ⟨by simp [h.1],fun j hj=>?_⟩
 rcases Nat.lt_or_ge j ls.length with hl | hl
 ·obtain ⟨x,h1,h2⟩:=h.2 j hl
  refine ⟨x,by rw [List.getElem?_append_left (by rw [h.1];exact hl)];exact h1, ?_⟩
  rw [List.getD_eq_getElem?_getD,List.getElem?_append_left hl,← List.getD_eq_getElem?_getD]
  exact h2
 ·have:j=ls.length:=by simp at hj;omega
  subst this
  refine ⟨v,by rw [← h.1];simp, ?_⟩
  simp
  exact hv
theorem SubV.bs {b o c:Nat} {inp:Bts} {v:Value} {l:Bts} {W:World} (h:SubV b o c inp v l) (hb:∀ i,i < inp.length→W.cell? ⟨b,o+i,none⟩=some (.int .u8 (inp.getD i 0).toNat)):∃ a,v=.slice (some ⟨b,o+a,none⟩) l.length (c - a)∧a+l.length≤inp.length∧∀ i,i < l.length→W.cell? ⟨b,o+a+i,none⟩=some (.int .u8 (l.getD i 0).toNat):=by
 obtain ⟨a,h1,h2,h3⟩:=h
 refine ⟨a,h1,h2,fun i hi=>?_⟩
 rw [Nat.add_assoc,hb (a+i) (by omega)]
 have:l.getD i 0=inp.getD (a+i) 0:=by
  conv=>lhs;rw [← h3]
  rw [List.getD_eq_getElem?_getD,List.getD_eq_getElem?_getD,List.getElem?_take,if_pos hi,List.getElem?_drop]
 rw [this]
theorem info_bytes:(Tryz.prog.info? 22).map (fun i=>(i.zero,i.size,i.bytes))=some (some (.slice none 0 0),1,24):=by kernel_rfl
def LinesPost (pi:Option Addr) (ci:Nat) (inp:Bts) (w:World) (e:Ending) (w':World):Prop:=∃ p c vs,e=.returned (.slice p (Wi.lines inp).length c)∧w'.ownsRow w.heap.size 22 1 (.slice p (Wi.lines inp).length c) (Wi.lines inp).length vs∧(0 < inp.length→∃ b o,pi=some ⟨b,o,none⟩∧SubsV b o ci inp vs (Wi.lines inp))∧Below w.heap.size w w'
theorem vals_shape {w:World} {B n:Nat} {v:Value} {t:TypeId} {xs:List Value} (h:w.ownsRow B t 1 v n xs):∃ p c,v=.slice p n c:=by
 rcases h.2 with ⟨h1,h2⟩ | ⟨g,cap,cur,e,-⟩
 ·exact ⟨none,0,by rw [h1,h2]⟩
 ·exact ⟨_,_,e⟩
theorem lines_nil:Wi.lines []=[]:=rfl
theorem lines_any (inp:Bts) (hin:inp.length≤1048576) (pi:Option Addr) (ci:Nat) (hci:inp.length≤ci) (w:World) (hi:Bs w pi inp) :
  Calls Tryz.prog 10 #[.slice pi inp.length ci] w fun e w'=>LinesPost pi ci inp w e w':=by
 rcases Nat.eq_zero_or_pos inp.length with h0 | hpos
 ·obtain rfl:inp=[]:=List.eq_nil_of_length_eq_zero h0
  clear hi hin h0
  simp only [List.length_nil]
  go_enter Tryz.func10,Tryz.ntmps10
  go_wp2_with fail
  go_loopw [3,4,5] (fun x3 x4 x5 wr=>x3=.slice none 0 0∧x4=.int .i64 0∧x5=.int .i64 0∧wr=w) (fun _ _ _ _=>0)
  case atStart=>exact ⟨rfl,rfl,rfl,rfl⟩
  case round=>
   obtain ⟨rfl,rfl,rfl,rfl⟩:=hrel
   go_wp2_with fail
   go_ret
   exact ⟨none,0,[],rfl,World.ownsRow_nil _ _ _ _,fun h=>absurd h (by simp),Below.refl _ _⟩
 ·obtain ⟨b,o,rfl,hcells⟩:=hi hpos
  have hbl:=World.block_lt_of_cell? _ _ (hcells 0 hpos)
  have HC:=Lib.hid hcells
  obtain ⟨i0,hi0,hz0,hz1,hz2⟩:=info_parts info_bytes
  have e0:Wi.lines (inp.drop 0)=Wi.lines inp:=by rw [List.drop_zero]
  obtain ⟨LS,hLS⟩:∃ LS,Wi.lines inp=LS:=⟨_,rfl⟩
  have HLS:=Lib.hid hLS
  clear hi hcells hLS e0
  go_enter Tryz.func10,Tryz.ntmps10
  go_wp2_with fail
  go_loopw [3,4,5] (fun x3 x4 x5 wr=>∃ (i a:Nat) (vs:List Value) (ls:List Bts),x5=.int .i64 i∧x4=.int .i64 a∧a≤i∧i≤inp.length∧vs.length≤i∧Hid (wr.ownsRow w.heap.size 22 1 x3 vs.length vs)∧Hid (SubsV b o ci inp vs ls)∧Hid (ls ++ Wi.lines (inp.drop a)=LS)∧Hid (∀ j,a≤j→j < i→inp.getD j 0≠10)∧Hid (Below w.heap.size w wr)) (fun _ _ x5 _=>inp.length - (intOf x5).toNat)
  case atStart=>exact ⟨0,0,[],[],rfl,rfl,Nat.le_refl _,Nat.zero_le _,Nat.zero_le _,Lib.hid (World.ownsRow_nil _ _ _ _),Lib.hid ⟨rfl,fun j hj=>absurd hj (Nat.not_lt_zero _)⟩,Lib.hid (by rw [List.drop_zero,HLS.out];rfl),Lib.hid (fun j _ h=>by omega),Lib.hid (Below.refl _ _)⟩
  case round=>
   obtain ⟨i,a,vs,ls,rfl,rfl,hai,hil,hvl,HO,HS,HE,HN,HB⟩:=hrel
   obtain ⟨p,c,rfl⟩:=vals_shape HO.out
   by_cases hlt:i < inp.length
   ·obtain ⟨x,hx⟩:∃ x,inp.getD i 0=x:=⟨_,rfl⟩
    have hc0:=HC.out i hlt
    rw [hx] at hc0
    have hcr:=(HB.out.cell (p:=⟨b,o+i,none⟩) hbl).trans hc0
    have g1:decide ((i:Int) < inp.length)=true:=by simp;omega
    have g2:decide (i < inp.length)=true:=by simp;omega
    have g3:(0:Int)≤i:=by omega
    have g4:(i:Int) < inp.length:=by omega
    have HX:=Lib.hid hx
    clear hc0 hx
    by_cases h10:x=10
    ·subst h10
     have hcr2:wr.cell? ⟨b,o+i,none⟩=some (.int .u8 10):=hcr
     have f1:(0:Int)≤a:=by omega
     have f2:(a:Int)≤i:=by omega
     have f3:(i:Int)≤ci:=by omega
     have f4:a≤i:=hai
     have f5:i≤ci:=by omega
     have f6:¬ ci - a=0:=by omega
     have f7:¬ ci=a:=by omega
     have f8:¬ ci≤a:=by omega
     have hat:=lines_at inp a i hai hlt HN.out HX.out
     obtain ⟨l,hl⟩:∃ l,(inp.drop a).take (i - a)=l:=⟨_,rfl⟩
     have hll:l.length=i - a:=by rw [← hl,List.length_take,List.length_drop];omega
     rw [hl] at hat
     have hsub:SubV b o ci inp (.slice (some ⟨b,o+a,none⟩) (i - a) (ci - a)) l:=⟨a,by rw [hll],by omega,by rw [hll];exact hl⟩
     have HPUSH:=Lib.hid (HS.out.push hsub)
     have HE2:Hid ((ls ++ [l]) ++ Wi.lines (inp.drop (i+1))=LS):=Lib.hid (by rw [← HE.out,hat];simp)
     have hvl2:vs.length≤1048576:=by omega
     clear hat hl hsub hcr
     go_wp2_with (at_builtin;refine wpList_append_own _ rfl _ _ 39 rfl w.heap.size 22 i0 (.slice none 0 0) 1 24 Tryz.underlying39 hi0 hz0 hz1 hz2 rfl (by decide) _ _ _ rfl (HO.out.alloc _) ⟨wr.heap.size,0,none⟩ 1 1 [.slice (some ⟨b,o+a,none⟩) (i - a) (ci - a)] rfl rfl (cell_one_new _ _ _) (by simp [Value.oneCell']) (by unfold maxLen;omega) (by omega) (by have:=HB.out.size;simp <;> omega) ?_;intro v' w5 hown' hgrow _)
     have hb5:Below w.heap.size w w5:=(HB.out.alloc HB.out.size _).grown hgrow (by have:=HB.out.size;simp <;> omega) fun j hj=>(HO.out.lt j hj).1
     go_roundw
     case rel=>exact ⟨i+1,i+1,vs ++ [.slice (some ⟨b,o+a,none⟩) (i - a) (ci - a)],ls ++ [l],by go_num,by go_num,Nat.le_refl _,by omega,by simp;omega,Lib.hid (by simpa using hown'),HPUSH,HE2,Lib.hid (fun j h1 h2=>by omega),Lib.hid hb5⟩
     case measure=>simp [intOf];omega
    ·have f0:((x.toNat:Int) == 10)=false:=by simpa using u8_lit (n:=10) h10 (by decide)
     have H10:=Lib.hid h10
     clear h10
     go_wp2_with fail
     go_roundw
     case rel=>exact ⟨i+1,a,vs,ls,by go_num,rfl,by omega,by omega,by omega,HO,HS,HE,Lib.hid (fun j h1 h2=>by
      rcases Nat.lt_or_ge j i with h | h
      ·exact HN.out j h1 h
      ·have:j=i:=by omega
       rw [this,HX.out];exact H10.out),HB⟩
     case measure=>simp [intOf];omega
   ·obtain rfl:i=inp.length:=by omega
    have g1:decide ((inp.length:Int) < inp.length)=false:=by simp
    by_cases hal:a < inp.length
    ·have e1:decide ((a:Int) < inp.length)=true:=by simp;omega
     have e2:decide (a < inp.length)=true:=by simp;omega
     have f1:(0:Int)≤a:=by omega
     have f2:(a:Int)≤inp.length:=by omega
     have f6:¬ ci - a=0:=by omega
     have f7:¬ ci=a:=by omega
     have f8:¬ ci≤a:=by omega
     have hat:=lines_end inp a hal HN.out
     obtain ⟨l,hl⟩:∃ l,inp.drop a=l:=⟨_,rfl⟩
     have hll:l.length=inp.length - a:=by rw [← hl,List.length_drop]
     rw [hl] at hat
     have hsub:SubV b o ci inp (.slice (some ⟨b,o+a,none⟩) (inp.length - a) (ci - a)) l:=⟨a,by rw [hll],by omega,by rw [hl,List.take_of_length_le (by omega)]⟩
     have HPUSH:=Lib.hid (HS.out.push hsub)
     have HE2:Hid (ls ++ [l]=LS):=Lib.hid (by rw [← HE.out,hl,hat])
     have hvl2:vs.length≤1048576:=by omega
     clear hat hl hsub
     go_wp2_with (at_builtin;refine wpList_append_own _ rfl _ _ 39 rfl w.heap.size 22 i0 (.slice none 0 0) 1 24 Tryz.underlying39 hi0 hz0 hz1 hz2 rfl (by decide) _ _ _ rfl (HO.out.alloc _) ⟨wr.heap.size,0,none⟩ 1 1 [.slice (some ⟨b,o+a,none⟩) (inp.length - a) (ci - a)] rfl rfl (cell_one_new _ _ _) (by simp [Value.oneCell']) (by unfold maxLen;omega) (by omega) (by have:=HB.out.size;simp <;> omega) ?_;intro v' w5 hown' hgrow _)
     have hb5:Below w.heap.size w w5:=(HB.out.alloc HB.out.size _).grown hgrow (by have:=HB.out.size;simp <;> omega) fun j hj=>(HO.out.lt j hj).1
     have hlen:(vs ++ [Value.slice (some ⟨b,o+a,none⟩) (inp.length - a) (ci - a)]).length=LS.length:=by rw [← HE2.out];exact HPUSH.out.1
     have hlen2:vs.length+1=LS.length:=by simpa using hlen
     obtain ⟨p',c',rfl⟩:=vals_shape hown'
     rw [hlen2] at hown'
     go_ret
     refine ⟨p',c',_,by rw [HLS.out,← hlen2];rfl,by rw [HLS.out];exact hown',fun _=>⟨b,o,rfl,by rw [HLS.out,← HE2.out];exact HPUSH.out⟩,hb5⟩
    ·obtain rfl:a=inp.length:=by omega
     have e1:decide ((inp.length:Int) < inp.length)=false:=by simp
     have hE:ls=LS:=by
      have:=HE.out
      rw [List.drop_of_length_le (Nat.le_refl _),lines_nil,List.append_nil] at this
      exact this
     have HE2:=Lib.hid hE
     have hlen:vs.length=LS.length:=by rw [← hE];exact HS.out.1
     clear hE
     go_wp2_with fail
     go_ret
     refine ⟨p,c,vs,by rw [HLS.out,← hlen];rfl,by rw [HLS.out,← hlen];exact HO.out,fun _=>⟨b,o,rfl,by rw [HLS.out,← HE2.out];exact HS.out⟩,HB.out⟩
end Go.Proofs.YtefpcacnblaokaaGreatDoor

/-
  The walk of the law's lines. Condition: lengths.
-/
set_option maxRecDepth 100000
set_option maxHeartbeats 4000000
namespace Go.Proofs.YtefpcacnblaokaaGreatDoor
open Go.RowKit Go.Shelf Go.Maps
theorem flatF_len:∀ (k:Nat) (inp:Bts),inp.length≤k→(Sd.flat (Wi.linesF k inp)).length≤2 * inp.length:=by
 intro k
 induction k with
 | zero=>intro inp _;simp [Wi.linesF,Sd.flat]
 | succ k ih=>
  intro inp h
  rw [Wi.linesF]
  by_cases he:inp=[]
  ·rw [if_pos he];simp [Sd.flat]
  ·rw [if_neg he]
   have h1:=Sd.lineOf_lt inp he
   have h2:=Sd.lineOf_all inp
   have h3:=ih (Wi.lineOf inp).2.2 (by omega)
   simp only [Sd.flat,List.flatMap_cons,List.length_append,List.length_cons,List.length_nil] at h3 ⊢
   omega
theorem flat_len (inp:Bts):(Sd.flat (Wi.lines inp)).length≤2 * inp.length:=flatF_len _ inp (Nat.le_refl _)
theorem flat_take (l:List Bts) (i:Nat) (hi:i < l.length):Sd.flat (l.take (i+1))=Sd.flat (l.take i) ++ (l.getD i [] ++ [10]):=by
 rw [List.take_succ_eq_append_getElem hi]
 unfold Sd.flat
 rw [List.flatMap_append]
 simp [List.getD_eq_getElem?_getD,List.getElem?_eq_getElem hi]
theorem flat_take_len (l:List Bts) (i:Nat):(Sd.flat (l.take i)).length≤(Sd.flat l).length:=by
 conv=>rhs;rw [← List.take_append_drop i l]
 unfold Sd.flat
 rw [List.flatMap_append,List.length_append]
 omega
theorem lawLines_any (inp:Bts) (hin:inp.length≤100000) (pi:Option Addr) (ci:Nat) (hci:inp.length≤ci) (w:World) (hi:Bs w pi inp) :
  Calls Tryz.prog 9 #[.slice pi inp.length ci] w fun e w'=>e=.returned (.string ⟨(Sd.flat (Wi.lines inp)).toArray⟩)∧Below w.heap.size w w':=by
 have hln:=lines_any inp (by omega) pi ci hci w hi
 have hfl:=flat_len inp
 have HI:=Lib.hid hi
 clear hi
 go_enter Tryz.func9,Tryz.ntmps9
 go_wp2_with fail
 refine hln.mono ?_
 rintro e w1 ⟨p,c,vs,rfl,hown,hsub,hb1⟩
 have HOWN:=Lib.hid hown
 have HSUB:=Lib.hid hsub
 have HB1:=Lib.hid hb1
 have hlen:(Wi.lines inp).length≤(Sd.flat (Wi.lines inp)).length:=by
  have:∀ l:List Bts,l.length≤(Sd.flat l).length:=by
   intro l
   induction l with
   | nil=>simp
   | cons x r ih=>
    simp only [Sd.flat,List.flatMap_cons,List.length_append,List.length_cons,List.length_nil] at ih ⊢
    omega
  exact this _
 generalize hLS:Wi.lines inp=LS at *
 clear hln hown hsub hb1
 go_wp2_with fail
 go_loopw [4,5] (fun x4 x5 wr=>∃ i:Nat,x5=.int .i64 i∧i≤LS.length∧x4=.string ⟨(Sd.flat (LS.take i)).toArray⟩∧wr=w1) (fun _ x5 _=>LS.length - (intOf x5).toNat)
 case atStart=>exact ⟨0,rfl,Nat.zero_le _,rfl,rfl⟩
 case round=>
  obtain ⟨i,rfl,hil,rfl,hwr⟩:=hrel
  rw [hwr]
  clear hwr
  by_cases hlt:i < LS.length
  ·have hpos:0 < inp.length:=by
    rcases Nat.eq_zero_or_pos inp.length with h0 | h0
    ·have:inp=[]:=List.eq_nil_of_length_eq_zero h0
     subst this
     rw [← hLS] at hlt
     simp [Wi.lines,Wi.linesF] at hlt
    ·exact h0
   obtain ⟨b,o,rfl,hsv⟩:=HSUB.out hpos
   obtain ⟨v,hv,hsb⟩:=hsv.2 i hlt
   obtain ⟨b',o',e1,hcc⟩:=HI.out hpos
   have hb':=World.block_lt_of_cell? _ _ (hcc 0 hpos)
   injection e1 with e1
   injection e1 with e1 e2
   subst e1
   subst e2
   obtain ⟨a,rfl,ha1,hcell⟩:=hsb.bs (W:=w1) (fun j hj=>(HB1.out.cell (p:=⟨b,o+j,none⟩) hb').trans (hcc j hj))
   obtain ⟨g,rfl⟩:∃ g,p=some ⟨g,0,none⟩:=by
    obtain ⟨n,hn⟩:∃ n,LS.length=n+1:=⟨LS.length - 1,by omega⟩
    have ho:=HOWN.out
    rw [hn] at ho
    obtain ⟨g,c',e⟩:=own_slice ho
    injection e with e
    exact ⟨g,e⟩
   have hc1:=HOWN.out.cellAt i (by omega)
   rw [hv] at hc1
   have hbs:Bs w1 (some ⟨b,o+a,none⟩) (LS.getD i []):=fun _=>⟨b,o+a,rfl,hcell⟩
   have hcv:=run_str hbs (ci - a)
   have hft:=flat_take LS i hlt
   have hfl2:=flat_take_len LS (i+1)
   have hle:(Sd.flat (LS.take i)).length+((LS.getD i []).length+1)≤200000:=by
    have:=congrArg List.length hft
    rw [List.length_append,List.length_append] at this
    simp only [List.length_cons,List.length_nil] at this
    omega
   generalize hli:LS.getD i []=li at *
   have g1:¬ 9223372036854775807 < (Sd.flat (LS.take i)).length+li.length:=by omega
   have g2:¬ 9223372036854775807 < (Sd.flat (LS.take i)).length+li.length+1:=by omega
   have hlt2:(i:Int) < (LS.length:Int):=by omega
   have hw1:IntKind.i64.wrap ((i:Int)+1)=(i:Int)+1:=wrap_i64 (by omega) (by omega)
   have HFT:=Lib.hid hft
   generalize hFI:Sd.flat (LS.take i)=FI at *
   have hse:(⟨FI.toArray⟩:ByteArray) ++ ⟨li.toArray⟩ ++ ⟨#[10]⟩=⟨(FI ++ (li ++ [10])).toArray⟩:=by
    rw [str_app]
    exact (str_app _ [10]).trans (by rw [List.append_assoc])
   have HSE:=Lib.hid hse
   clear hft hfl2 hv hsv hcc hbs hli hcell hsb hse
   go_wp2_with fail
   exact ⟨⟨i+1,by go_num,by omega,by rw [HFT.out];exact ⟨congrArg Value.string HSE.out,trivial⟩⟩,by show LS.length - ((i:Int)+1).toNat < LS.length - (i:Int).toNat;omega⟩
  ·obtain rfl:i=LS.length:=by omega
   rw [List.take_length]
   go_wp2_with fail
   go_ret
   exact ⟨by rw [hLS];rfl,HB1.out⟩
end Go.Proofs.YtefpcacnblaokaaGreatDoor
