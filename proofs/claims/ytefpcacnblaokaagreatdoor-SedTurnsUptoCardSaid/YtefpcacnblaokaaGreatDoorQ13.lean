/-
  Texts of this seat put together: GW9, GNum.
-/
import Derived.Test.YtefpcacnblaokaaGreatDoorQ12
import Derived.Shelf.Strings.SlTrimAscii
import Derived.Lib.ParseIntBTie

/-
  Nodes in memory as the expression's; the walk of bracket. Condition: what is told lies in memory.
-/
set_option maxRecDepth 100000
set_option maxHeartbeats 1600000
namespace Go.Proofs.YtefpcacnblaokaaGreatDoor.Rg
open Go.RowKit Go.Shelf Go.Maps
abbrev noHas:Rx.Has:=fun _=>false
def Ptrs (w:World) (k:Nat) (ps:List Nat):Prop:=∀ i,i < ps.length→w.cell? ⟨k,i,none⟩=some (.pointer (some ⟨ps.getD i 0,0,none⟩))
theorem Ptrs.kept {S:Nat→Prop} {w w':World} {k:Nat} {ps:List Nat} (h:Ptrs w k ps) (hk:Kept S w w') (hS:¬ S k):Ptrs w' k ps:=by
 intro i hi
 have h1:=h i hi
 have hlt:=World.block_lt_of_cell? _ _ h1
 have hb:=hk.block k hlt hS
 unfold World.cell? at h1 ⊢
 simp only [hb]
 exact h1
inductive NdIn (w:World) (M:Nat→Prop):Nat→Rx.Nd→Prop
 | empty {p:Nat} (hp:M p) (hb:Blk w p (ndCells 0 noHas 0 0 (.slice none 0 0)) 349):NdIn w M p .empty
 | set {p:Nat} {h:Rx.Has} (hp:M p) (hb:Blk w p (setCells h) 349):NdIn w M p (.set h)
 | beg {p:Nat} (hp:M p) (hb:Blk w p (ndCells 2 noHas 0 0 (.slice none 0 0)) 349):NdIn w M p .beg
 | fin {p:Nat} (hp:M p) (hb:Blk w p (ndCells 3 noHas 0 0 (.slice none 0 0)) 349):NdIn w M p .fin
 | cat {p k c:Nat} {l:List Rx.Nd} {ps:List Nat} (hp:M p) (hb:Blk w p (ndCells 4 noHas 0 0 (.slice (some ⟨k,0,none⟩) l.length c)) 349)
   (h0:1 < l.length) (hc:l.length≤c∧l.length≤1073741824) (hk:M k) (hl:ps.length=l.length) (hps:Ptrs w k ps) (hn:∀ i,i < l.length→NdIn w M (ps.getD i 0) (l.getD i .empty)):NdIn w M p (.cat l)
 | alt {p k c:Nat} {l:List Rx.Nd} {ps:List Nat} (hp:M p) (hb:Blk w p (ndCells 5 noHas 0 0 (.slice (some ⟨k,0,none⟩) l.length c)) 349)
   (h0:1 < l.length) (hc:l.length≤c∧l.length≤1073741824) (hk:M k) (hl:ps.length=l.length) (hps:Ptrs w k ps) (hn:∀ i,i < l.length→NdIn w M (ps.getD i 0) (l.getD i .empty)):NdIn w M p (.alt l)
 | rep {p k q m:Nat} {most:Int} {n:Rx.Nd} (hp:M p) (hb:Blk w p (ndCells 6 noHas m most (.slice (some ⟨k,0,none⟩) 1 1)) 349)
   (hk:M k) (hps:Ptrs w k [q]) (hn:NdIn w M q n) (hm:m≤255∧-1≤most∧most≤255):NdIn w M p (.rep m most n)
abbrev NdAt (w:World) (B:Nat):Nat→Rx.Nd→Prop:=NdIn w (fun b=>B≤b)
theorem NdIn.kept {S M:Nat→Prop} {w w':World} {p:Nat} {n:Rx.Nd} (h:NdIn w M p n) (hk:Kept S w w') (hS:∀ k,M k→¬ S k):NdIn w' M p n:=by
 induction h with
 | empty hp hb=>exact .empty hp (hb.kept hk (hS _ hp))
 | set hp hb=>exact .set hp (hb.kept hk (hS _ hp))
 | beg hp hb=>exact .beg hp (hb.kept hk (hS _ hp))
 | fin hp hb=>exact .fin hp (hb.kept hk (hS _ hp))
 | cat hp hb h0 hc hk' hl hps _ ih=>exact .cat hp (hb.kept hk (hS _ hp)) h0 hc hk' hl (hps.kept hk (hS _ hk')) ih
 | alt hp hb h0 hc hk' hl hps _ ih=>exact .alt hp (hb.kept hk (hS _ hp)) h0 hc hk' hl (hps.kept hk (hS _ hk')) ih
 | rep hp hb hk' hps _ hm ih=>exact .rep hp (hb.kept hk (hS _ hp)) hk' (hps.kept hk (hS _ hk')) ih hm
theorem NdIn.mono {M M':Nat→Prop} {w:World} {p:Nat} {n:Rx.Nd} (h:NdIn w M p n) (hB:∀ k,M k→M' k):NdIn w M' p n:=by
 induction h with
 | empty hp hb=>exact .empty (hB _ hp) hb
 | set hp hb=>exact .set (hB _ hp) hb
 | beg hp hb=>exact .beg (hB _ hp) hb
 | fin hp hb=>exact .fin (hB _ hp) hb
 | cat hp hb h0 hc hk' hl hps _ ih=>exact .cat (hB _ hp) hb h0 hc (hB _ hk') hl hps ih
 | alt hp hb h0 hc hk' hl hps _ ih=>exact .alt (hB _ hp) hb h0 hc (hB _ hk') hl hps ih
 | rep hp hb hk' hps _ hm ih=>exact .rep (hB _ hp) hb (hB _ hk') hps ih hm
theorem NdIn.at_ {M:Nat→Prop} {w:World} {p:Nat} {n:Rx.Nd} (h:NdIn w M p n):M p:=by
 cases h <;> assumption
theorem Ptrs.lt {w:World} {k:Nat} {ps:List Nat} (h:Ptrs w k ps) (h0:0 < ps.length):k < w.heap.size:=World.block_lt_of_cell? _ _ (h 0 h0)
theorem NdIn.lt {M:Nat→Prop} {w:World} {p:Nat} {n:Rx.Nd} (h:NdIn w M p n):NdIn w (fun k=>M k∧k < w.heap.size) p n:=by
 induction h with
 | empty hp hb=>exact .empty ⟨hp,hb.lt⟩ hb
 | set hp hb=>exact .set ⟨hp,hb.lt⟩ hb
 | beg hp hb=>exact .beg ⟨hp,hb.lt⟩ hb
 | fin hp hb=>exact .fin ⟨hp,hb.lt⟩ hb
 | cat hp hb h0 hc hk' hl hps _ ih=>exact .cat ⟨hp,hb.lt⟩ hb h0 hc ⟨hk',hps.lt (by omega)⟩ hl hps ih
 | alt hp hb h0 hc hk' hl hps _ ih=>exact .alt ⟨hp,hb.lt⟩ hb h0 hc ⟨hk',hps.lt (by omega)⟩ hl hps ih
 | rep hp hb hk' hps _ hm ih=>exact .rep ⟨hp,hb.lt⟩ hb ⟨hk',hps.lt (by simp)⟩ hps ih hm
def NodePost (B:Nat) (r:Nat) (ext fold:Bool) (x:Option (Rx.Nd × Rx.Bytes)) (e:Ending) (w':World):Prop:=match x with
 | none=>e=.panicked [{ v:=brokenV,recovered:=false }]
 | some (n,s')=>∃ p,e=.returned (.pointer (some ⟨p,0,none⟩))∧RdAt w' r s' ext fold∧NdAt w' B p n
theorem take_len {t s s':Rx.Bytes} (h:Rx.take t s=some s'):s'.length≤s.length:=by
 unfold Rx.take at h;split at h
 ·cases h;simp
 ·cases h
theorem cls_len {h:Rx.Has} {s:Rx.Bytes} {x:Rx.Has × Rx.Bytes} (hc:Rx.cls h s=some (some x)):x.2.length < s.length:=by
 unfold Rx.cls at hc
 cases ht:Rx.take [91,58] s with
 | none=>simp [ht] at hc
 | some t=>
  simp only [ht] at hc
  have hl:t.length < s.length:=by
   unfold Rx.take at ht;split at ht
   ·rename_i hp
    have:=List.IsPrefix.length_le (List.isPrefixOf_iff_prefix.1 hp)
    cases ht;simp at this ⊢;omega
   ·cases ht
  rcases cut_shut t with ⟨h1,h2⟩ | ⟨h1,h2⟩
  ·rw [h2] at hc
   simp only [] at hc
   split at hc
   ·cases hc
   ·cases hc;simp;omega
  ·rw [h2] at hc;simp at hc
theorem upper_len {s s':Rx.Bytes} {c:UInt8} (h:Rx.upper s=some (c,s')):s'.length < s.length:=by
 unfold Rx.upper at h
 split at h
 ·rename_i x hx;cases h;exact named_len hx
 ·split at h
  ·rename_i x hx;cases h;exact named_len hx
  ·split at h
   ·cases h
   ·cases h;simp
theorem part_len {h h':Rx.Has} {s s':Rx.Bytes} (hp:Rx.part h s=some (h',s')):s'.length < s.length:=by
 unfold Rx.part at hp
 split at hp
 ·cases hp
 ·rename_i x hx;cases hp;exact cls_len hx
 ·split at hp
  ·rename_i x hx;cases hp;exact named_len hx
  ·split at hp
   ·cases hp
   ·rename_i c t ht
    have h1:=lower_len ht
    split at hp
    ·cases hp
    ·rename_i d r2 hr
     cases hp
     unfold Rx.rangeOf at hr
     split at hr
     ·split at hr
      ·cases hr
      ·rename_i d' r2' hu
       have h2:=upper_len hu
       split at hr
       ·cases hr
       ·cases hr
        have:t.tail.length≤t.length:=by simp
        omega
     ·cases hr;exact h1
def lenAt (w:World) (r:Nat):Nat:=match w.cell? ⟨r,0,none⟩ with
 | some (.string s)=>s.size
 | _=>0
theorem lenAt_rd {w:World} {r:Nat} {s:Rx.Bytes} {ext fold:Bool} (h:RdAt w r s ext fold):lenAt w r=s.length:=by
 have c0:w.cell? ⟨r,0,none⟩=some (.string ⟨s.toArray⟩):=Blk.cell h 0 rfl
 unfold lenAt
 rw [c0]
 simp [ByteArray.size]
theorem take_one (r:Nat) (c:UInt8) (s:Rx.Bytes) (ext fold:Bool) (w:World) (h:RdAt w r s ext fold) :
  Calls Tryz.prog 273 #[.pointer (some ⟨r,0,none⟩),.string ⟨#[c]⟩] w fun e w'=>(∃ is s1,e=.returned (.bool is)∧RdAt w' r s1 ext fold∧Hid ((is=true∧s=c :: s1)∨(is=false∧s1=s∧s.head?≠some c)))∧Kept (·=r) w w':=by
 refine (take_any r [c] s ext fold w h).mono ?_
 rintro e w' ⟨h1,hk⟩
 refine ⟨?_,hk⟩
 unfold TakePost Rx.take at h1
 cases s with
 | nil=>exact ⟨false,[],h1.1,h1.2,.inr ⟨rfl,rfl,by simp⟩⟩
 | cons d t=>
  by_cases hd:c=d
  ·subst hd
   simp at h1
   exact ⟨true,t,h1.1,h1.2,.inl ⟨rfl,rfl⟩⟩
  ·have hp:([c]:Rx.Bytes).isPrefixOf (d :: t)=false:=by simp [List.isPrefixOf,hd]
   rw [hp] at h1
   exact ⟨false,d :: t,h1.1,h1.2,.inr ⟨rfl,rfl,by simpa using fun e=>hd e.symm⟩⟩
theorem take_cons (c:UInt8) (s:Rx.Bytes):Rx.take [c] (c :: s)=some s:=by simp [Rx.take]
theorem prefix_one (c:UInt8) (s:Rx.Bytes):([c]:Rx.Bytes).isPrefixOf s=(s.head? == some c):=by
 cases s with
 | nil=>rfl
 | cons d t=>
  rw [Bool.eq_iff_iff];simp [List.isPrefixOf];exact eq_comm
theorem neq_step (h:Rx.Has) (v:Bool) (j:Nat) (hj:j < 256):(fun c:UInt8=>if c.toNat=j then (h (UInt8.ofNat j) != v) else if c.toNat < j then h c != v else h c)=fun c=>if c.toNat < j+1 then h c != v else h c:=by
 funext c
 have ej:(UInt8.ofNat j).toNat=j:=by simp [UInt8.toNat_ofNat'];omega
 by_cases h1:c.toNat=j
 ·obtain rfl:c=UInt8.ofNat j:=UInt8.toNat_inj.1 (by rw [ej,h1])
  rw [if_pos ej,if_pos (by omega)]
 ·rw [if_neg h1]
  by_cases h2:c.toNat < j
  ·rw [if_pos h2,if_pos (by omega)]
  ·rw [if_neg h2,if_neg (by omega)]
theorem bracket_any (r:Nat) (s:Rx.Bytes) (ext fold:Bool) (w:World) (hr:Rd w r s ext fold) :
  Calls Tryz.prog 306 #[.pointer (some ⟨r,0,none⟩)] w fun e w'=>NodePost w.heap.size r ext fold (Rx.bracket fold s) e w'∧Kept (·=r) w w':=by
 have HP:Hid (∀ x,Rx.bracket fold s=x→∀ e w',NodePost w.heap.size r ext fold x e w'→NodePost w.heap.size r ext fold (Rx.bracket fold s) e w'):=by
  rintro x rfl e w' h;exact h
 generalize hpost:NodePost w.heap.size r ext fold (Rx.bracket fold s)=POST at HP ⊢
 clear hpost
 have hrlt:=hr.lt
 have HR:=Lib.hid hr
 clear hr
 go_enter Tryz.func306,Tryz.ntmps306
 go_upto_region 2 with fail
 rw [nd_new]
 have hb:=Blk.new w (setCells noHas) 349
 have hk1:Kept (fun k=>k=r∨k=w.heap.size) w (w.alloc (.cells (setCells noHas) 349)):=(Kept.refl _ _).alloc _
 have hr1:=HR.out.at_.alloc (.cells (setCells noHas) 349)
 have HR1:Hid (Rd (w.alloc (.cells (setCells noHas) 349)) r s ext fold):=by
  show Rd _ _ _ _ _
  exact HR.out.self ((Kept.refl _ _).alloc _) hr1 (Nat.le_refl _)
 show Code.wp _ _ _ _ (w.alloc (.cells (setCells noHas) 349))
 generalize w.alloc (.cells (setCells noHas) 349)=w1 at *
 have I:InSet w w1 r w.heap.size noHas s ext fold:=⟨hr1,hb,hk1⟩
 have hne:r≠w.heap.size:=by omega
 generalize hbs:w.heap.size=b at *
 clear hb hk1 hr1
 have ht:=take_one r 94 s ext fold w1 I.rd
 clear HR1
 go_wp2_with fail
 refine ht.mono ?_
 rintro e w2 ⟨⟨not,s1,rfl,hr2,HT⟩,hk2⟩
 have I2:=I.go hne hr2 hk2
 clear hr2 hk2 I ht w1
 have hl1:s1.length≤s.length:=by
  rcases HT.out with ⟨-,rfl⟩ | ⟨-,rfl,-⟩
  ·simp
  ·exact Nat.le_refl _
 have HB:Hid (Rx.bracket fold s=match Rx.parts (s1.length+1) true noHas s1 with
  | none=>none
  | some (h,s2)=>match Rx.take [93] s2 with
   | none=>none
   | some s3=>some (.set fun c=>Rx.folds fold h c != not,s3)):=by
  show _=_
  rcases HT.out with ⟨rfl,rfl⟩ | ⟨rfl,rfl,hh⟩
  ·rfl
  ·have:(s1.head? == some 94)=false:=by simpa using hh
   unfold Rx.bracket
   rw [this];rfl
 have HRd:Hid (∀ wx h s',InSet w wx r b h s' ext fold→s'.length≤s.length→Rd wx r s' ext fold):=by
  intro wx h s' I hl
  have h8:=HR.out.hr
  exact HR.out.next I.kept (by rintro k (rfl | rfl) <;> omega) I.rd hl
 clear HT
 generalize hP:Rx.parts (s1.length+1) true noHas s1=PARTS at HB
 have HP0:=Lib.hid hP
 clear hP
 go_wp2_with fail
 go_loopw [5] (fun x5 wr=>∃ first h s',x5=.bool first∧InSet w wr r b h s' ext fold∧s'.length≤s1.length∧Hid (∃ f,s'.length < f∧Rx.parts f first h s'=PARTS)) (fun _ wr=>lenAt wr r)
 case atStart=>exact ⟨true,noHas,s1,rfl,I2,Nat.le_refl _,⟨s1.length+1,by omega,HP0.out⟩⟩
 case round=>
  clear I2 HP0
  obtain ⟨first,h,s',rfl,I3,hl3,HF⟩:=hrel
  have cr:=I3.cell
  have hpre:=hasPrefix_any s' [93]
  rw [prefix_one] at hpre
  go_upto_region 4 with fail
  go_cut [11,12,13,14,15,16,17,18,19] (fun _ _ _ _ _ _ _ _ s19 wx=>s19=.bool (first || !(s'.head? == some 93))∧wx=wr)
  case first=>
   cases first with
   | true=>
    go_wp2_with fail
    go_meet
    exact ⟨rfl,rfl⟩
   | false=>
    go_wp2_with fail
    refine (hpre _).mono ?_
    rintro e wx ⟨rfl,rfl⟩
    go_wp2_with fail
    go_meet
    exact ⟨rfl,rfl⟩
  case rest=>
   obtain ⟨rfl,rfl⟩:=hcut
   clear hpre
   cases hco:first || !(s'.head? == some 93) with
   | true=>
    cases s' with
    | nil=>
     have HN:Hid (PARTS=none):=by
      obtain ⟨f,hf,hp⟩:=HF.out
      show PARTS=none
      rw [← hp]
      cases f with
      | zero=>rfl
      | succ f=>simp [Rx.parts]
     clear HF hco
     go_wp2_with fail
     refine (fail_any _).mono ?_
     rintro e w4 ⟨rfl,rfl⟩
     go_wp2_with fail
     exact ⟨rfl,HP.out none (by rw [HB.out,HN.out]) _ _ rfl,I3.kept.mono fun k hk h=>by omega⟩
    | cons d t=>
     have hpt:=part_any r b h (d :: t) ext fold _ (HRd.out _ _ _ I3 (by omega)) I3.nd
     unfold PartPost at hpt
     have HF2:Hid (∃ f,(d :: t).length≤f∧(match Rx.part h (d :: t) with
       | none=>none
       | some (h2,s2)=>Rx.parts f false h2 s2)=PARTS):=by
      obtain ⟨f,hf,hp⟩:=HF.out
      cases f with
      | zero=>omega
      | succ f=>
       refine ⟨f,by omega, ?_⟩
       rw [← hp]
       have:(!first && (d :: t).head? == some 93)=false:=by
        cases first
        ·simpa using hco
        ·rfl
       simp only [Rx.parts]
       rw [this,if_neg (by simp),if_neg (by simp)]
       rfl
     clear HF hco
     cases hp:Rx.part h (d :: t) with
     | none=>
      rw [hp] at hpt
      have HN:Hid (PARTS=none):=by obtain ⟨f,-,h2⟩:=HF2.out;rw [hp] at h2;exact h2.symm
      clear HF2 hp
      go_wp2_with fail
      refine hpt.mono ?_
      rintro e w4 ⟨rfl,hk4⟩
      go_wp2_with fail
      exact ⟨rfl,HP.out none (by rw [HB.out,HN.out]) _ _ rfl,(I3.kept.trans hk4).mono fun k hk h=>by omega⟩
     | some x=>
      obtain ⟨h2,s2⟩:=x
      rw [hp] at hpt
      have hl2:=part_len hp
      have HF3:Hid (∃ f,s2.length < f∧Rx.parts f false h2 s2=PARTS):=by
       obtain ⟨f,hf,h2⟩:=HF2.out
       rw [hp] at h2
       exact ⟨f,by omega,h2⟩
      have hm:=lenAt_rd I3.rd
      clear HF2 hp
      go_wp2_with fail
      refine hpt.mono ?_
      rintro e w4 ⟨⟨rfl,hr4,hb4⟩,hk4⟩
      have hm4:=lenAt_rd hr4
      have I4:InSet w w4 r b h2 s2 ext fold:=⟨hr4,hb4,I3.kept.trans hk4⟩
      clear hr4 hb4 hk4 I3 cr hpt
      go_wp2_with fail
      refine ⟨⟨false,h2,s2,rfl,I4,by omega,HF3⟩, ?_⟩
      rw [hm,hm4];exact hl2
   | false=>
    have hfs:first=false∧s'.head?=some 93:=by
     cases first
     ·simpa using hco
     ·simp at hco
    obtain ⟨rfl,hh⟩:=hfs
    obtain ⟨t,rfl⟩:∃ t,s'=93 :: t:=by
     cases s' with
     | nil=>simp at hh
     | cons d t=>simp at hh;exact ⟨t,by rw [hh]⟩
    have HX:Hid (Rx.bracket fold s=some (.set fun c=>Rx.folds fold h c != not,t)):=by
     obtain ⟨f,hf,hp⟩:=HF.out
     show _=_
     rw [HB.out,← hp]
     cases f with
     | zero=>omega
     | succ f=>
      have:Rx.parts (f+1) false h (93 :: t)=some (h,93 :: t):=by simp [Rx.parts]
      rw [this]
      simp only [take_cons]
    have hm:=must_any r [93] (93 :: t) ext fold _ I3.rd
    unfold MustPost at hm
    rw [take_cons] at hm
    clear HF hco hh HB
    go_wp2_with fail
    refine hm.mono ?_
    rintro e w4 ⟨⟨rfl,hr4⟩,hk4⟩
    have I4:=I3.go hne hr4 hk4
    clear hr4 hk4 I3 cr hm
    have hf:=folds_any r b 1 0 0 (.slice none 0 0) h t ext fold w4 I4.rd I4.nd
    go_wp2_with fail
    refine hf.mono ?_
    rintro e w5 ⟨rfl,hb5,hk5⟩
    have I5:InSet w w5 r b (Rx.folds fold h) t ext fold:=⟨I4.rd.kept hk5 hne,hb5,I4.kept.trans (hk5.mono fun _ _ h=>.inr h)⟩
    clear hb5 hk5 I4 hf
    generalize Rx.folds fold h=g at *
    go_wp2_with fail
    go_loopw [6,34] (fun _x6 x34 wr=>∃ j:Nat,j≤256∧x34=.int .i64 j∧InSet w wr r b (fun c=>if c.toNat < j then g c != not else g c) t ext fold) (fun _ x34 _=>256 - (intOf x34).toNat)
    case atStart=>exact ⟨0,Nat.zero_le _,rfl,by simpa using I5⟩
    case round=>
     clear I5
     obtain ⟨j,hj,rfl,I6⟩:=hrel
     by_cases hlt:j < 256
     ·have c0:=I6.nd.cell (1+j) (nd_has _ _ _ _ _ j hlt)
      have f0:=I6.nd.free (1+j)
      have ej:(UInt8.ofNat j).toNat=j:=by simp [UInt8.toNat_ofNat'];omega
      rw [ej,if_neg (Nat.lt_irrefl j)] at c0
      have HS:=Lib.hid (neq_step g not j hlt)
      generalize g (UInt8.ofNat j)=y at *
      go_wp2_with fail
      go_region
      all_goals go_wp2_with fail
      all_goals
       refine ⟨⟨j+1,by omega,by go_num, ?_⟩, ?_⟩
       ·have I7:=I6.set hne j hlt (y != not)
        rw [HS.out] at I7
        exact ⟨I7.rd.drew,I7.nd.drew,I7.kept.drew⟩
       ·show 256 - ((j:Int)+1).toNat < 256 - (j:Int).toNat
        omega
     ·obtain rfl:j=256:=by omega
      go_wp2_with fail
      go_ret
      have e:(fun c:UInt8=>if c.toNat < 256 then g c != not else g c)=fun c=>g c != not:=by
       funext c
       rw [if_pos c.toNat_lt]
      rw [e] at I6
      exact ⟨HP.out _ HX.out _ _ ⟨b,rfl,I6.rd,.set (Nat.le_refl _) I6.nd⟩,I6.kept.mono fun k hk h=>by omega⟩
end Go.Proofs.YtefpcacnblaokaaGreatDoor.Rg

/-
  The walk of text.Number; the plain law of digits' values. Conditions: the strings are no longer than memory allows; the library's variables hold errors.
-/
set_option maxRecDepth 100000
namespace Go.Proofs.YtefpcacnblaokaaGreatDoor.Rg.Ord
open Go
abbrev Bytes:=List UInt8
def digit (c:UInt8):Bool:=48≤c && c≤57
def value (s:Bytes):Nat:=s.foldl (fun n c=>n * 10+(c.toNat - 48)) 0
def number (s:Bytes) (most:Int):Option Int:=
 if !s.isEmpty && s.all digit && decide ((value s:Int)≤most) then some (value s) else none
def valueFrom (a:Nat) (s:Bytes):Nat:=s.foldl (fun n c=>n * 10+(c.toNat - 48)) a
theorem valueFrom_ge (s:Bytes):∀ a,a≤valueFrom a s:=by
 induction s with
 | nil=>intro a;exact Nat.le_refl _
 | cons c r ih=>intro a;have:=ih (a * 10+(c.toNat - 48));simp only [valueFrom,List.foldl_cons] at this ⊢;omega
theorem digit_nat {c:UInt8} (h:digit c=true):48≤c.toNat∧c.toNat≤57:=by
 simpa [digit,UInt8.le_iff_toNat_le] using h
theorem parseUintM_digits (s:Bytes):∀ a,s.all digit=true→a≤18446744073709551615 →
  Lib.parseUintM 18446744073709551615 a s=if valueFrom a s≤18446744073709551615 then .ok (valueFrom a s) else .range:=by
 induction s with
 | nil=>intro a _ ha;simp [Lib.parseUintM,valueFrom,ha]
 | cons c r ih=>
  intro a hs ha
  simp only [List.all_cons,Bool.and_eq_true] at hs
  have hd:=digit_nat hs.1
  have hv:=valueFrom_ge r (a * 10+(c.toNat - 48))
  have e:valueFrom a (c :: r)=valueFrom (a * 10+(c.toNat - 48)) r:=rfl
  simp only [Lib.parseUintM,if_pos hd]
  rw [e]
  by_cases h1:1844674407370955162≤a
  ·rw [if_pos h1,if_neg (by omega)]
  ·rw [if_neg h1]
   by_cases h2:18446744073709551615 < a * 10+(c.toNat - 48)
   ·rw [if_pos h2,if_neg (by omega)]
   ·rw [if_neg h2];exact ih _ hs.2 (by omega)
theorem parseIntB_digits (s:Bytes) (hs:s.all digit=true) (h0:s≠[]) :
  Lib.parseIntB 64 s=if value s < 9223372036854775808 then .ok (value s:Int) else .range:=by
 match s,hs,h0 with
 | c :: r,hs,_=>
  have hd:=digit_nat (by simp only [List.all_cons,Bool.and_eq_true] at hs;exact hs.1)
  have hu:Lib.parseUintB 64 (c :: r)=if value (c :: r)≤18446744073709551615 then .ok (value (c :: r)) else .range:=by
   unfold Lib.parseUintB
   rw [if_neg (by simp)]
   exact parseUintM_digits (c :: r) 0 hs (by omega)
  have hu':Lib.parseUintB 64 (if c.toNat=43∨c.toNat=45 then r else c :: r)=if value (c :: r)≤18446744073709551615 then .ok (value (c :: r)) else .range:=by
   rw [if_neg (by omega)];exact hu
  simp only [Lib.parseIntB,hu']
  have h45:¬ c.toNat=45:=by omega
  by_cases h1:value (c :: r)≤18446744073709551615
  ·rw [if_pos h1]
   by_cases h2:value (c :: r) < 9223372036854775808
   ·rw [if_pos h2];simp [h45];omega
   ·rw [if_neg h2];simp [h45];omega
  ·rw [if_neg h1,if_neg (by omega)]
theorem number_none_of (s:Bytes) (most:Int) (h:s=[]∨s.all digit=false∨most < value s):number s most=none:=by
 unfold number
 rcases h with h | h | h
 ·simp [h]
 ·simp [h]
 ·rw [if_neg];simp;intro _ _;omega
theorem number_some_of (s:Bytes) (most:Int) (h0:s≠[]) (h:s.all digit=true) (hv:(value s:Int)≤most):number s most=some (value s:Int):=by
 unfold number
 rw [if_pos]
 simp [h0,h,hv]
end Go.Proofs.YtefpcacnblaokaaGreatDoor.Rg.Ord
namespace Go.Proofs.YtefpcacnblaokaaGreatDoor.Rg
open Go.RowKit Go.Shelf
theorem digit_int (c:UInt8):Ord.digit c=(decide ((48:Int)≤c.toNat) && decide ((c.toNat:Int)≤57)):=by
 simp only [Ord.digit,u8_le];rfl
theorem digit_no {c:UInt8} (h:(c.toNat:Int) < 48∨57 < (c.toNat:Int)):Ord.digit c=false:=by
 rw [digit_int];simp;omega
theorem digit_yes {c:UInt8} (h:(48:Int)≤c.toNat) (h':(c.toNat:Int)≤57):Ord.digit c=true:=by
 rw [digit_int];simp;omega
theorem trimLeft_any (l cs:Ord.Bytes) (q:UInt8→Bool) (hq:∀ c,List.contains cs c=q c) (hcs:cs.all (fun b=>decide (b.toNat < 128))=true) (hl:cs.length < 4294967281) (w:World) :
  Calls Tryz.prog 30 #[.string ⟨l.toArray⟩,.string ⟨cs.toArray⟩] w fun e w'=>e=.returned (.string ⟨(l.dropWhile q).toArray⟩)∧Below w.heap.size w w':=by
 have h:Calls Tryz.prog 30 _ w _:=Any.strings_TrimLeft_laid Tryz.lays161 (by kernel_rfl) ⟨l.toArray⟩ ⟨cs.toArray⟩ w (by simpa [ByteArray.size] using hl) (ascii_of_all hcs)
 obtain rfl:(cs.contains ·)=q:=funext hq
 exact h
theorem digit_contains (c:UInt8):List.contains [48,49,50,51,52,53,54,55,56,57] c=Ord.digit c:=by
 rw [Bool.eq_iff_iff]
 simp [Ord.digit,u8_eq,u8_le]
 omega
theorem take_sub_drop (l:Ord.Bytes) (p:UInt8→Bool):l.take (l.length - (l.dropWhile p).length)=l.takeWhile p:=by
 have h:l.takeWhile p ++ l.dropWhile p=l:=List.takeWhile_append_dropWhile
 have hl:(l.takeWhile p).length+(l.dropWhile p).length=List.length l:=by rw [← List.length_append,h]
 have e:l.take (l.length - (l.dropWhile p).length)=(l.takeWhile p ++ l.dropWhile p).take (l.takeWhile p).length:=by rw [h];congr 1;omega
 rw [e,List.take_left]
def numVal (l:Ord.Bytes) (most:Int):Value:=match Ord.number l most with
 | none=>.tuple #[.int .i64 0,.bool false]
 | some v=>.tuple #[.int .i64 v,.bool true]
theorem parseInt_bad (l:Ord.Bytes) (hl:l.length≤140737488351232) (h:l=[]∨(l.all Ord.digit=true∧9223372036854775808≤Ord.value l)) (w:World) (hg:Glo w) :
  Calls Tryz.prog 278 #[.string ⟨l.toArray⟩,.int .i64 10,.int .i64 64] w fun e w'=>(∃ n t a,e=.returned (.tuple #[.int .i64 n,.iface t (.pointer (some a))]))∧Below w.heap.size w w':=by
 obtain ⟨⟨t1,p1,h1⟩,⟨t2,p2,h2⟩,-⟩:=hg
 by_cases h0:l=[]
 ·subst h0
  exact (Any.strconv_ParseInt_10_at64_syntax_var Tryz.laysC174 ⟨#[]⟩ (by decide) rfl t1 p1 w h1).mono fun e w' ⟨N,he,_,_,hb⟩=>⟨⟨_,_,_,he⟩,hb⟩
 ·rcases h with h | ⟨ha,hv⟩
  ·exact absurd h h0
  ·exact (Any.strconv_ParseInt_10_at64_range_var Tryz.laysC174 ⟨l.toArray⟩ (by simp [ByteArray.size];omega) (by rw [Ord.parseIntB_digits l ha h0,if_neg (by omega)]) t2 p2 w h2).mono fun e w' ⟨N,he,_,_,hb⟩=>⟨⟨_,_,_,he⟩,hb⟩
theorem parseInt_good (l:Ord.Bytes) (hl:l.length≤140737488351232) (h0:l≠[]) (ha:l.all Ord.digit=true) (hv:Ord.value l < 9223372036854775808) (w:World) :
  Calls Tryz.prog 278 #[.string ⟨l.toArray⟩,.int .i64 10,.int .i64 64] w fun e w'=>e=.returned (.tuple #[.int .i64 (Ord.value l),.nilIface])∧Below w.heap.size w w':=by
 refine (Any.strconv_ParseInt_10_at64_ok Tryz.laysC174 ⟨l.toArray⟩ (by simp [ByteArray.size];omega) (Ord.value l) (by rw [Ord.parseIntB_digits l ha h0,if_pos hv]) w).mono fun e w' ⟨he,hw⟩=>⟨he, ?_⟩
 rcases hw with rfl | ⟨t,rfl⟩
 ·exact Below.refl _ _
 ·exact Lib.bytesWorld_below _ _ _
theorem all_take (l:Ord.Bytes) (k:Nat) (hk:k < l.length):(l.take (k+1)).all Ord.digit=((l.take k).all Ord.digit && Ord.digit (l.getD k 0)):=by
 rw [List.take_succ_eq_append_getElem hk,List.all_append]
 simp [List.getD_eq_getElem?_getD,List.getElem?_eq_getElem hk]
theorem all_false_at (l:Ord.Bytes) (k:Nat) (hk:k < l.length) (h:Ord.digit (l.getD k 0)=false):l.all Ord.digit=false:=by
 rw [List.all_eq_false]
 exact ⟨l.getD k 0,by rw [List.getD_eq_getElem?_getD,List.getElem?_eq_getElem hk];exact List.getElem_mem hk,by rw [h];decide⟩
theorem numVal_none {l:Ord.Bytes} {most:Int} (h:l=[]∨l.all Ord.digit=false∨most < Ord.value l):numVal l most=.tuple #[.int .i64 0,.bool false]:=by
 unfold numVal;rw [Ord.number_none_of l most h]
theorem numVal_some {l:Ord.Bytes} {most:Int} (h0:l≠[]) (h:l.all Ord.digit=true) (hv:(Ord.value l:Int)≤most):numVal l most=.tuple #[.int .i64 (Ord.value l),.bool true]:=by
 unfold numVal;rw [Ord.number_some_of l most h0 h hv]
theorem based_any (l:Ord.Bytes) (most:Int) (hl:l.length≤140737488351232) (hm0:0≤most) (hm:most≤2147483647) (w:World) (hg:Glo w) (hB:8≤w.heap.size) :
  Calls Tryz.prog 234 #[.string ⟨l.toArray⟩,.int .i64 most,.int .i64 10] w fun e w'=>e=.returned (numVal l most)∧Below w.heap.size w w':=by
 have hconv:=fun w=>Lib.run_convert_string_bytes (P:=Tryz.prog) w 9 22 5 ⟨l.toArray⟩ Tryz.underlying9 Tryz.underlying22 Tryz.underlying5
 have hsz:(⟨l.toArray⟩:ByteArray).size=l.length:=by simp [ByteArray.size]
 simp only [hsz] at hconv
 have hbel:=Lib.bytesWorld_below w 5 ⟨l.toArray⟩
 have hcell:∀ j,j < l.length→(Lib.bytesWorld w 5 ⟨l.toArray⟩).cell? ⟨w.heap.size,j,none⟩=some (.int .u8 (l.getD j 0).toNat):=fun j hj=>Lib.bytesWorld_cell w 5 ⟨l.toArray⟩ j (by rw [hsz];exact hj)
 have hsize:=Lib.bytesWorld_size w 5 ⟨l.toArray⟩
 go_enter Tryz.func234,Tryz.ntmps234
 go_wp2_with fail
 clear hconv
 generalize Lib.bytesWorld w 5 ⟨l.toArray⟩=w1 at *
 have hg1:=hg.kept (Kept.of_below (S:=fun _=>False) hbel) (fun _ h=>h.elim) hB
 go_loop [15] (fun i=>∃ k:Nat,k≤l.length∧(l.take k).all Ord.digit=true∧i=.int .i64 k) (fun i=>l.length - (intOf i).toNat)
 case atStart=>exact ⟨0,Nat.zero_le _,rfl,rfl⟩
 case round=>
  obtain ⟨k,hk,hall,rfl⟩:=hrel
  have HA:=Lib.hid hall;clear hall
  by_cases hlt:k < l.length
  ·have hc:=hcell k hlt
   have hbd:=u8_bd (l.getD k 0)
   have eg:l[k]=l.getD k 0:=by simp [List.getD_eq_getElem?_getD,List.getElem?_eq_getElem hlt]
   have EG:=Lib.hid eg;clear eg
   go_wp2_with fail
   ·have h1:(l[k].toNat:Int) < 48:=by assumption
    rw [EG.out] at h1
    go_ret2
    refine ⟨?_,hbel⟩
    rw [numVal_none (.inr (.inl (all_false_at l k hlt (digit_no (by omega)))))];rfl
   ·have h1:10≤((l[k].toNat:Int) - 48) % 256:=by assumption
    rw [EG.out] at h1
    go_ret2
    refine ⟨?_,hbel⟩
    rw [numVal_none (.inr (.inl (all_false_at l k hlt (digit_no (by omega)))))];rfl
   ·have h1:((l[k].toNat:Int) - 48) % 256 < 10:=by assumption
    have h2:¬ (l[k].toNat:Int) < 48:=by assumption
    rw [EG.out] at h1 h2
    go_round
    case rel=>exact ⟨k+1,by omega,by rw [all_take l k hlt,HA.out,digit_yes (by omega) (by omega)];rfl,by go_num⟩
    case measure=>simp [intOf];omega
  ·obtain rfl:k=l.length:=by omega
   have hall:l.all Ord.digit=true:=by simpa using HA.out
   have HA2:=Lib.hid hall;clear hall HA
   by_cases h0:l=[]∨9223372036854775808≤Ord.value l
   ·have HN:=Lib.hid (show numVal l most=.tuple #[.int .i64 0,.bool false] from numVal_none (by rcases h0 with h | h;exact .inl h;exact .inr (.inr (by omega))))
    have hbad:=fun w=>parseInt_bad l hl (h0.imp id fun h=>⟨HA2.out,h⟩) w
    clear h0
    go_wp2_with (go_at_call 278;refine (hbad _ hg1).mono ?_;rintro e w2 ⟨⟨n,t,a,rfl⟩,hb2⟩)
    go_ret2
    exact ⟨by rw [HN.out];rfl,hbel.trans (hb2.mono (by omega))⟩
   ·have hn0:l≠[]:=fun h=>h0 (.inl h)
    have hv:Ord.value l < 9223372036854775808:=by rcases Nat.lt_or_ge (Ord.value l) 9223372036854775808 with h | h;exact h;exact absurd (.inr h) h0
    have hgood:=fun w=>parseInt_good l hl hn0 HA2.out hv w
    clear h0
    by_cases hv2:(Ord.value l:Int)≤most
    ·have HN:=Lib.hid (numVal_some (most:=most) hn0 HA2.out hv2)
     clear hn0
     go_wp2_with (go_at_call 278;refine (hgood _).mono ?_;rintro e w2 ⟨rfl,hb2⟩)
     go_ret2
     exact ⟨by rw [HN.out];rfl,hbel.trans (hb2.mono (by omega))⟩
    ·have HN:=Lib.hid (show numVal l most=.tuple #[.int .i64 0,.bool false] from numVal_none (.inr (.inr (by omega))))
     clear hn0
     go_wp2_with (go_at_call 278;refine (hgood _).mono ?_;rintro e w2 ⟨rfl,hb2⟩)
     go_ret2
     exact ⟨by rw [HN.out];rfl,hbel.trans (hb2.mono (by omega))⟩
theorem number_any (l:Ord.Bytes) (most:Int) (hl:l.length≤140737488351232) (hm0:0≤most) (hm:most≤2147483647) (w:World) (hg:Glo w) (hB:8≤w.heap.size) :
  Calls Tryz.prog 176 #[.string ⟨l.toArray⟩,.int .i64 most] w fun e w'=>e=.returned (numVal l most)∧Below w.heap.size w w':=by
 have hb:=fun w' hg' hB'=>based_any l most hl hm0 hm w' hg' hB'
 have hx:∃ n b,numVal l most=.tuple #[.int .i64 n,.bool b]:=by
  unfold numVal;split <;> exact ⟨_,_,rfl⟩
 obtain ⟨n,b,hx⟩:=hx
 rw [hx] at hb ⊢
 clear hx
 go_enter Tryz.func176,Tryz.ntmps176
 go_wp2_with (go_at_call 234;refine (hb _ hg hB).mono ?_;rintro e w1 ⟨rfl,hb1⟩)
 go_ret2
 exact ⟨rfl,hb1⟩
end Go.Proofs.YtefpcacnblaokaaGreatDoor.Rg
