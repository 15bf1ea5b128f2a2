/-
  Texts of this seat put together: GW13, GW14, GW15.
-/
import Derived.Test.YtefpcacnblaokaaGreatDoorQ14
import Derived.Maps.AppendAt

/-
  The walk of atom, given that of branches. Condition: what is told lies in memory.
-/
set_option maxRecDepth 100000
set_option maxHeartbeats 3200000
namespace Go.Proofs.YtefpcacnblaokaaGreatDoor.Rg
open Go.RowKit Go.Shelf Go.Maps
theorem parts_len (f:Nat):∀ (first:Bool) (h h':Rx.Has) (s s':Rx.Bytes),Rx.parts f first h s=some (h',s')→s'.length≤s.length:=by
 induction f with
 | zero=>intro first h h' s s' e;simp [Rx.parts] at e
 | succ f ih=>
  intro first h h' s s' e
  unfold Rx.parts at e
  split at e
  ·cases e;exact Nat.le_refl _
  ·split at e
   ·cases e
   ·split at e
    ·cases e
    ·rename_i h2 s2 hp
     have h1:=part_len hp
     have h2:=ih _ _ _ _ _ e
     omega
theorem bracket_len {fold:Bool} {s s':Rx.Bytes} {n:Rx.Nd} (h:Rx.bracket fold s=some (n,s')):s'.length≤s.length:=by
 unfold Rx.bracket at h
 simp only [] at h
 split at h
 ·cases h
 ·rename_i g s2 hp
  have h1:=parts_len _ _ _ _ _ _ hp
  split at h
  ·cases h
  ·rename_i s3 ht
   cases h
   have h2:=take_len ht
   have h3:(if (s.head? == some 94)=true then s.tail else s).length≤s.length:=by split <;> simp
   omega
theorem escaped_len {fold:Bool} {no s s':Rx.Bytes} {n:Rx.Nd} (h:Rx.escaped fold no s=some (n,s')):s'.length≤s.length:=by
 unfold Rx.escaped at h
 split at h
 ·cases h
 ·split at h
  ·cases h
  ·cases h;simp
theorem piece_len {ext:Bool} {n n':Rx.Nd} {a:Bool} {s s':Rx.Bytes} (h:Rx.piece ext n a s=some (n',s')):s'.length≤s.length:=by
 unfold Rx.piece at h
 split at h
 ·cases h
 ·rename_i s1 ht;cases h;exact times_len ht
 ·rename_i m most s1 ht
  have h1:=times_len ht
  split at h
  ·rename_i s2 ht2
   have h2:=times_len ht2
   split at h
   ·cases h
   ·cases h;omega
  ·cases h
theorem ext_lens (fold:Bool) (f:Nat):(∀ s l s',Rx.branches fold f s=some (l,s')→s'.length≤s.length)∧(∀ s l s',Rx.branch fold f s=some (l,s')→s'.length≤s.length)∧(∀ s n s',Rx.atom fold f s=some (n,s')→s'.length < s.length):=by
 induction f with
 | zero=>exact ⟨fun s l s' h=>by simp [Rx.branches] at h,fun s l s' h=>by simp [Rx.branch] at h,fun s n s' h=>by simp [Rx.atom] at h⟩
 | succ f ih=>
  obtain ⟨i1,i2,i3⟩:=ih
  refine ⟨fun s l s' h=>?_,fun s l s' h=>?_,fun s n s' h=>?_⟩
  ·unfold Rx.branches at h
   split at h
   ·cases h
   ·cases h
   ·rename_i l1 s1 _ hb
    have h1:=i2 _ _ _ hb
    split at h
    ·cases h;exact h1
    ·rename_i s2 ht
     have h2:=take_len ht
     rw [Option.map_eq_some_iff] at h
     obtain ⟨x,hx,e⟩:=h
     cases e
     have:=i1 _ _ _ hx
     omega
  ·unfold Rx.branch at h
   split at h
   ·cases h;exact Nat.le_refl _
   ·split at h
    ·cases h
    ·rename_i a s1 ha
     have h1:=i3 _ _ _ ha
     split at h
     ·cases h
     ·rename_i p s2 hp
      have h2:=piece_len hp
      rw [Option.map_eq_some_iff] at h
      obtain ⟨x,hx,e⟩:=h
      cases e
      have:=i2 _ _ _ hx
      omega
  ·unfold Rx.atom at h
   split at h
   ·cases h
   ·rename_i c t
    split at h
    ·split at h
     ·cases h
     ·rename_i l s1 hb
      have h1:=i1 _ _ _ hb
      rw [Option.map_eq_some_iff] at h
      obtain ⟨x,hx,e⟩:=h
      cases e
      have:=take_len hx
      simp;omega
    ·split at h
     ·have:=bracket_len h;simp;omega
     ·split at h
      ·cases h;simp
      ·split at h
       ·cases h;simp
       ·split at h
        ·cases h;simp
        ·split at h
         ·have:=escaped_len h;simp;omega
         ·split at h
          ·cases h
          ·cases h;simp
def AtomC (fold:Bool) (L:Nat):Prop:=∀ (s:Rx.Bytes),s.length≤L→∀ f,3 * s.length+1≤f→∀ (r:Nat) (w:World),Rd w r s true fold →
 Calls Tryz.prog 303 #[.pointer (some ⟨r,0,none⟩)] w fun e w'=>NodePost w.heap.size r true fold (Rx.atom fold f s) e w'∧Kept (·=r) w w'
def branchN (fold:Bool) (f:Nat) (s:Rx.Bytes):Option (Rx.Nd × Rx.Bytes):=match Rx.branch fold f s with
 | none=>none
 | some ([],_)=>none
 | some (l,s')=>some (Rx.joinN .cat l,s')
def BranchC (fold:Bool) (L:Nat):Prop:=∀ (s:Rx.Bytes),s.length≤L→∀ f,3 * s.length+2≤f→∀ (r:Nat) (w:World),Rd w r s true fold →
 Calls Tryz.prog 272 #[.pointer (some ⟨r,0,none⟩)] w fun e w'=>NodePost w.heap.size r true fold (branchN fold f s) e w'∧Kept (·=r) w w'
def branchesN (fold:Bool) (f:Nat) (s:Rx.Bytes):Option (Rx.Nd × Rx.Bytes):=(Rx.branches fold f s).map fun x=>(Rx.joinN .alt x.1,x.2)
def BranchesC (fold:Bool) (L:Nat):Prop:=∀ (s:Rx.Bytes),s.length≤L→∀ f,3 * s.length+3≤f→∀ (r:Nat) (w:World),Rd w r s true fold →
 Calls Tryz.prog 230 #[.pointer (some ⟨r,0,none⟩)] w fun e w'=>NodePost w.heap.size r true fold (branchesN fold f s) e w'∧Kept (·=r) w w'
theorem u8_ne {c:UInt8} {k:UInt8} (h:¬ c=k):¬ ((c.toNat:Int)=(k.toNat:Int)):=fun e=>h (by rw [u8_eq];exact e)
theorem atom_any (fold:Bool) (L:Nat) (hB:∀ L',L' < L→BranchesC fold L'):AtomC fold L:=by
 intro s hsL f hf r w hr
 obtain ⟨f,rfl⟩:∃ g,f=g+1:=⟨f - 1,by omega⟩
 have HP:Hid (∀ x,Rx.atom fold (f+1) s=x→∀ e w',NodePost w.heap.size r true fold x e w'→NodePost w.heap.size r true fold (Rx.atom fold (f+1) s) e w'):=by
  rintro x rfl e w' h;exact h
 generalize hpost:NodePost w.heap.size r true fold (Rx.atom fold (f+1) s)=POST at HP ⊢
 clear hpost
 have G:Go1 w w r s true fold:=⟨hr,Kept.refl _ _⟩
 have hx:=G.next
 cases s with
 | nil=>
  have HX:Hid (Rx.atom fold (f+1) []=none):=by show _=_;rfl
  clear hr
  go_enter Tryz.func303,Tryz.ntmps303
  go_wp2_with fail
  refine hx.mono ?_
  rintro e w' ⟨rfl,hk⟩
  go_wp2_with fail
  exact ⟨rfl,HP.out _ HX.out _ _ rfl,hk⟩
 | cons c t=>
  simp only [List.length_cons] at hsL hf
  have HBs:Hid (BranchesC fold t.length):=by show BranchesC _ _;exact hB _ (by omega)
  clear hr hB
  go_enter Tryz.func303,Tryz.ntmps303
  go_wp2_with fail
  refine hx.mono ?_
  rintro e w1 ⟨rfl,G1⟩
  have hsz:=G1.kept.size
  clear hx G
  by_cases h40:c=40
  ·subst h40
   have hb:=HBs.out t (Nat.le_refl _) f (by omega) r w1 G1.rd
   have HX:Hid (Rx.atom fold (f+1) (40 :: t)=match branchesN fold f t with
    | none=>none
    | some (n,s1)=>(Rx.take [41] s1).map fun s2=>(n,s2)):=by
    show _=_
    unfold branchesN
    simp only [Rx.atom,if_pos]
    rcases Rx.branches fold f t with _ | ⟨l,s1⟩ <;> rfl
   rcases hbn:branchesN fold f t with _ | ⟨n,s1⟩
   ·rw [hbn] at hb HX
    clear hbn
    go_wp2_with fail
    refine hb.mono ?_
    rintro e w2 ⟨rfl,hk⟩
    go_wp2_with fail
    exact ⟨rfl,HP.out _ HX.out _ _ rfl,G1.kept.trans hk⟩
   ·have hl1:s1.length≤t.length:=by
     unfold branchesN at hbn
     rw [Option.map_eq_some_iff] at hbn
     obtain ⟨x,hx,e⟩:=hbn
     cases e
     exact (ext_lens fold f).1 _ _ _ hx
    rw [hbn] at hb HX
    clear hbn
    go_wp2_with fail
    refine hb.mono ?_
    rintro e w2 ⟨⟨p,rfl,hr2,hn2⟩,hk⟩
    have G2:=G1.go hr2 hk hl1
    have hrlt:=G1.rd.lt
    clear hb hr2
    rcases htk:Rx.take [41] s1 with _ | s2
    ·have hm:=G2.must [41] _ htk
     rw [htk] at HX
     go_wp2_with fail
     refine hm.mono ?_
     rintro e w3 ⟨rfl,hk3⟩
     clear hm htk
     go_wp2_with fail
     exact ⟨rfl,HP.out _ HX.out _ _ rfl,hk3⟩
    ·have hm:=must_any r [41] s1 true fold w2 G2.rd.at_
     unfold MustPost at hm
     rw [htk] at HX hm
     go_wp2_with fail
     refine hm.mono ?_
     rintro e w3 ⟨⟨rfl,hr3⟩,hk3⟩
     clear hm htk
     go_wp2_with fail
     go_ret
     exact ⟨HP.out _ HX.out _ _ ⟨p,rfl,hr3,(hn2.kept hk3 fun k hk e=>by omega).mono fun k hk=>by omega⟩,G2.kept.trans hk3⟩
  clear HBs
  by_cases h91:c=91
  ·subst h91
   have HX:Hid (Rx.atom fold (f+1) (91 :: t)=Rx.bracket fold t):=by show _=_;simp [Rx.atom]
   have hb:=bracket_any r t true fold w1 G1.rd
   go_wp2_with fail
   refine hb.mono ?_
   rintro e w2 ⟨hp,hk⟩
   cases hbn:Rx.bracket fold t with
   | none=>
    rw [hbn] at hp
    have hp:e=_:=hp
    subst hp
    have HX2:=HX.out.trans hbn
    have HX3:=Lib.hid HX2
    clear hbn hb HX HX2
    go_wp2_with fail
    exact ⟨rfl,HP.out _ HX3.out _ _ rfl,G1.kept.trans hk⟩
   | some x=>
    obtain ⟨n,s1⟩:=x
    rw [hbn] at hp
    obtain ⟨p,rfl,hr2,hn2⟩:=hp
    have HX2:=HX.out.trans hbn
    have HX3:=Lib.hid HX2
    clear hbn hb HX HX2
    go_wp2_with fail
    go_ret
    exact ⟨HP.out _ HX3.out _ _ ⟨p,rfl,hr2,hn2.mono fun k hk=>by omega⟩,G1.kept.trans hk⟩
  by_cases h46:c=46
  ·subst h46
   have HX:Hid (Rx.atom fold (f+1) (46 :: t)=some (Rx.dot,t)):=by show _=_;simp [Rx.atom]
   go_wp2_with fail
   refine (dot_any _).mono ?_
   rintro e w2 ⟨rfl,hb,hbl⟩
   go_wp2_with fail
   go_ret
   exact ⟨HP.out _ HX.out _ _ ⟨w1.heap.size,rfl,G1.rd.at_.keep hbl G1.rd.lt,.set hsz hb⟩,G1.kept.trans (Kept.of_below hbl)⟩
  by_cases h94:c=94
  ·subst h94
   have HX:Hid (Rx.atom fold (f+1) (94 :: t)=some (.beg,t)):=by show _=_;simp [Rx.atom]
   go_wp2_with fail
   rw [nd_new]
   go_ret
   exact ⟨HP.out _ HX.out _ _ ⟨w1.heap.size,rfl,G1.rd.at_.alloc _,.beg hsz (Blk.new _ _ _)⟩,G1.kept.alloc _⟩
  by_cases h36:c=36
  ·subst h36
   have HX:Hid (Rx.atom fold (f+1) (36 :: t)=some (.fin,t)):=by show _=_;simp [Rx.atom]
   go_wp2_with fail
   rw [nd_new]
   go_ret
   exact ⟨HP.out _ HX.out _ _ ⟨w1.heap.size,rfl,G1.rd.at_.alloc _,.fin hsz (Blk.new _ _ _)⟩,G1.kept.alloc _⟩
  by_cases h92:c=92
  ·subst h92
   have HX:Hid (Rx.atom fold (f+1) (92 :: t)=Rx.escaped fold [] t):=by show _=_;simp [Rx.atom]
   have hb:=escaped_any r [] t true fold w1 G1.rd
   go_wp2_with fail
   refine hb.mono ?_
   rintro e w2 ⟨hp,hk⟩
   cases hbn:Rx.escaped fold [] t with
   | none=>
    rw [hbn] at hp
    have hp:e=_:=hp
    subst hp
    have HX3:=Lib.hid (HX.out.trans hbn)
    clear hbn hb HX
    go_wp2_with fail
    exact ⟨rfl,HP.out _ HX3.out _ _ rfl,G1.kept.trans hk⟩
   | some x=>
    obtain ⟨n,s1⟩:=x
    rw [hbn] at hp
    obtain ⟨p,rfl,hr2,hn2⟩:=hp
    have HX3:=Lib.hid (HX.out.trans hbn)
    clear hbn hb HX
    go_wp2_with fail
    go_ret
    exact ⟨HP.out _ HX3.out _ _ ⟨p,rfl,hr2,hn2.mono fun k hk=>by omega⟩,G1.kept.trans hk⟩
  by_cases h42:c=42
  ·subst h42
   have HX:Hid (Rx.atom fold (f+1) (42 :: t)=none):=by show _=_;simp [Rx.atom]
   go_wp2_with fail
   refine (fail_any _).mono ?_
   rintro e w2 ⟨rfl,rfl⟩
   go_wp2_with fail
   exact ⟨rfl,HP.out _ HX.out _ _ rfl,G1.kept⟩
  by_cases h43:c=43
  ·subst h43
   have HX:Hid (Rx.atom fold (f+1) (43 :: t)=none):=by show _=_;simp [Rx.atom]
   go_wp2_with fail
   refine (fail_any _).mono ?_
   rintro e w2 ⟨rfl,rfl⟩
   go_wp2_with fail
   exact ⟨rfl,HP.out _ HX.out _ _ rfl,G1.kept⟩
  by_cases h63:c=63
  ·subst h63
   have HX:Hid (Rx.atom fold (f+1) (63 :: t)=none):=by show _=_;simp [Rx.atom]
   go_wp2_with fail
   refine (fail_any _).mono ?_
   rintro e w2 ⟨rfl,rfl⟩
   go_wp2_with fail
   exact ⟨rfl,HP.out _ HX.out _ _ rfl,G1.kept⟩
  by_cases h123:c=123
  ·subst h123
   have HX:Hid (Rx.atom fold (f+1) (123 :: t)=none):=by show _=_;simp [Rx.atom]
   go_wp2_with fail
   refine (fail_any _).mono ?_
   rintro e w2 ⟨rfl,rfl⟩
   go_wp2_with fail
   exact ⟨rfl,HP.out _ HX.out _ _ rfl,G1.kept⟩
  have HX:Hid (Rx.atom fold (f+1) (c :: t)=some (Rx.one fold c,t)):=by show _=_;simp [Rx.atom,h40,h91,h46,h94,h36,h92,h42,h43,h63,h123]
  have g40:¬ ((c.toNat:Int)=40):=u8_ne h40
  have g91:¬ ((c.toNat:Int)=91):=u8_ne h91
  have g46:¬ ((c.toNat:Int)=46):=u8_ne h46
  have g94:¬ ((c.toNat:Int)=94):=u8_ne h94
  have g36:¬ ((c.toNat:Int)=36):=u8_ne h36
  have g92:¬ ((c.toNat:Int)=92):=u8_ne h92
  have g42:¬ ((c.toNat:Int)=42):=u8_ne h42
  have g43:¬ ((c.toNat:Int)=43):=u8_ne h43
  have g63:¬ ((c.toNat:Int)=63):=u8_ne h63
  have g123:¬ ((c.toNat:Int)=123):=u8_ne h123
  clear h40 h91 h46 h94 h36 h92 h42 h43 h63 h123
  go_wp2_with fail
  refine (one_any r c t true fold _ G1.rd.at_).mono ?_
  rintro e w3 ⟨rfl,hb,hbl⟩
  go_wp2_with fail
  go_ret
  have:=NodePost.one (B:=w.heap.size) G1 G1.kept.size hb hbl
  exact ⟨HP.out _ HX.out _ _ this.1,this.2⟩
end Go.Proofs.YtefpcacnblaokaaGreatDoor.Rg

/-
  The walk of branch, given that of atom; of branches, given that of branch. Condition: what is told lies in memory.
-/
set_option maxRecDepth 100000
set_option maxHeartbeats 3200000
namespace Go.Proofs.YtefpcacnblaokaaGreatDoor.Rg
open Go.RowKit Go.Shelf Go.Maps
theorem info_node:(Tryz.prog.info? 276).map (fun i=>(i.zero,i.size,i.bytes))=some (some (.pointer none),1,8):=by kernel_rfl
theorem Go1.pushed {w w3 w5:World} {r:Nat} {s:Rx.Bytes} {ext fold:Bool} {o:Obj} {v:Value} (G:Go1 w w3 r s ext fold) (hg:(w3.alloc o).grownBy w5 v.ownBlock) (hv:∀ k,v.ownBlock=some k→w.heap.size≤k) (hr:r < w.heap.size):Go1 w w5 r s ext fold:=by
 have hk:Kept (fun b=>v.ownBlock=some b) (w3.alloc o) w5:=⟨hg.os,hg.tape,hg.output,hg.size,fun k hk hs=>hg.block k hk (fun e=>hs e.symm)⟩
 have hk2:Kept (fun b=>v.ownBlock=some b) w3 w5:=((Kept.refl _ _).alloc o).trans hk
 have h8:=G.rd.hr
 refine ⟨G.rd.next hk2 (fun k e=>?_) (G.rd.at_.kept hk2 fun e=>?_) (Nat.le_refl _),G.kept.pushed hg hv⟩
 ·have:=hv k e;omega
 ·have:=hv r e;omega
def branchOn:Rx.Bytes→Bool
 | []=>false
 | c :: _=>c != 124 && c != 41
theorem branch_off {fold:Bool} {f:Nat} {s:Rx.Bytes} (h:branchOn s=false):Rx.branch fold (f+1) s=some ([],s):=by
 unfold Rx.branch
 rw [if_pos]
 cases s with
 | nil=>exact .inl rfl
 | cons c t=>
  right
  have h:(c != 124 && c != 41)=false:=h
  by_cases h1:c=124
  ·left;simp [h1]
  ·right
   have:(c != 124)=true:=by simpa using h1
   rw [this] at h
   simpa using h
theorem branch_on {fold:Bool} {f:Nat} {c:UInt8} {t:Rx.Bytes} (h:branchOn (c :: t)=true):Rx.branch fold (f+1) (c :: t)=match Rx.atom fold f (c :: t) with
   | none=>none
   | some (a,s1)=>match Rx.piece true a (c == 94 || c == 36) s1 with
    | none=>none
    | some (p,s2)=>(Rx.branch fold f s2).map fun x=>(p :: x.1,x.2):=by
 unfold branchOn at h
 simp only [Bool.and_eq_true,bne_iff_ne,ne_eq] at h
 rw [Rx.branch,if_neg]
 ·rfl
 ·simp [h.1,h.2]
structure BrIn (fold:Bool) (X:Option (List Rx.Nd × Rx.Bytes)) (w wr:World) (r:Nat) (v:Value) (done:List Rx.Nd) (ps:List Nat) (s':Rx.Bytes) (f' L:Nat):Prop where
 nds:NdsAt wr w.heap.size v done ps
 go:Go1 w wr r s' true fold
 fuel:3 * s'.length+2≤f'
 len:done.length+s'.length≤L
 eq:Hid (X=(Rx.branch fold f' s').map fun x=>(done ++ x.1,x.2))
theorem branch_any (fold:Bool) (L:Nat) (hA:AtomC fold L):BranchC fold L:=by
 intro s hsL f hf r w hr
 have HP:Hid (∀ x,branchN fold f s=x→∀ e w',NodePost w.heap.size r true fold x e w'→NodePost w.heap.size r true fold (branchN fold f s) e w'):=by
  rintro x rfl e w' h;exact h
 have HN:Hid (∀ x,Rx.branch fold f s=x→branchN fold f s=match (generalizing:=false) x with
  | none=>none
  | some ([],_)=>none
  | some (l,s')=>some (Rx.joinN .cat l,s')):=by rintro x rfl;rfl
 generalize hpost:NodePost w.heap.size r true fold (branchN fold f s)=POST at HP ⊢
 clear hpost
 have G:Go1 w w r s true fold:=⟨hr,Kept.refl _ _⟩
 have hrlt:=hr.lt
 have hslen:=hr.len
 have I:BrIn fold (Rx.branch fold f s) w w r (.slice none 0 0) [] [] s f s.length:=⟨NdsAt.nil _ _,G,hf,by simp,by
  show _=_
  rcases Rx.branch fold f s with _ | ⟨l,s'⟩ <;> rfl⟩
 have HA:=Lib.hid hA
 generalize Rx.branch fold f s=X at HN I
 clear hr hA G hf
 obtain ⟨i0,hi,hz0,hz1,hz2⟩:=info_parts info_node
 go_enter Tryz.func272,Tryz.ntmps272
 go_wp2_with fail
 go_loopw [3,4] (fun x3 _x4 wr=>∃ done ps s' f',BrIn fold X w wr r x3 done ps s' f' s.length) (fun _ _ wr=>lenAt wr r)
 case atStart=>exact ⟨_,_,_,_,I⟩
 case round=>
  clear I
  obtain ⟨done,ps,s',f',I⟩:=hrel
  have cr:=I.go.cell
  have HI:=Lib.hid I
  clear I
  go_upto_region 2 with fail
  go_cut [5,6,7,8,9,10,11,12,13,14,15,16,17,18,19,20,21,22,23,24,25] (fun _ _ _ _ _ _ _ _ _ _ _ _ _ _ _ _ _ _ _ _ s25 wx=>s25=.bool (branchOn s')∧wx=wr)
  case first=>
   cases s' with
   | nil=>
    go_wp2_with fail
    go_meet
    exact ⟨rfl,rfl⟩
   | cons c t=>
    by_cases h1:c=124
    ·subst h1
     go_wp2_with fail
     go_meet
     exact ⟨rfl,rfl⟩
    ·have g1:=u8_ne h1
     have g2:¬ ((c.toNat:Int)=124):=g1
     have H1:Hid ((c != 124)=true):=by show _=_;simpa using h1
     clear h1 g1
     go_wp2_with fail
     go_meet
     refine ⟨congrArg Value.bool ?_,rfl⟩
     show ((c.toNat:Int) != 41)=(c != 124 && (c != 41))
     rw [H1.out,Bool.true_and]
     unfold bne
     rw [u8_beq];rfl
  case rest=>
   obtain ⟨rfl,rfl⟩:=hcut
   obtain ⟨g,rfl⟩:∃ g,f'=g+1:=⟨f' - 1,by have:=HI.out.fuel;omega⟩
   cases hon:branchOn s' with
   | false=>
    have HX:Hid (X=some (done,s')):=by
     show _=_
     rw [HI.out.eq.out,branch_off hon];simp
    clear hon
    rcases HI.out.nds.ex with ⟨rfl,rfl⟩ | ⟨k,c,rfl,hc,hpos,-,-,-⟩
    ·have HB:=HN.out _ HX.out
     have HB2:=Lib.hid HB
     clear HB
     go_wp2_with fail
     refine (fail_any _).mono ?_
     rintro e w2 ⟨rfl,rfl⟩
     go_wp2_with fail
     exact ⟨rfl,HP.out _ HB2.out _ _ rfl,HI.out.go.kept⟩
    ·have HB:Hid (branchN fold f s=some (Rx.joinN .cat done,s')):=by
      show _=_
      rw [HN.out _ HX.out]
      cases done with
      | nil=>simp at hpos
      | cons x d=>rfl
     have hd0:¬ ((done.length:Int)=0):=by omega
     have hwr:=HI.out.go.kept.size
     have hlen:=HI.out.len
     have hj:=join_any 4 .cat .cat _ done ps w.heap.size _ HI.out.nds hwr (by omega)
     clear hpos
     go_wp2_with fail
     refine hj.mono ?_
     rintro e w2 ⟨⟨p,rfl,hn⟩,hbl⟩
     go_wp2_with fail
     go_ret
     exact ⟨HP.out _ HB.out _ _ ⟨p,rfl,HI.out.go.rd.at_.keep hbl HI.out.go.rd.lt,hn⟩,HI.out.go.kept.trans (Kept.of_below hbl)⟩
   | true=>
    cases s' with
    | nil=>cases hon
    | cons c t=>
     have HX:Hid (X=(match Rx.atom fold g (c :: t) with
       | none=>none
       | some (a,s1)=>match Rx.piece true a (c == 94 || c == 36) s1 with
        | none=>none
        | some (p,s2)=>(Rx.branch fold g s2).map fun (x:List Rx.Nd × Rx.Bytes)=>(p :: x.1,x.2)).map fun (x:List Rx.Nd × Rx.Bytes)=>(done ++ x.1,x.2)):=by
      show _=_
      rw [HI.out.eq.out,branch_on hon]
     have hfuel:=HI.out.fuel
     have hlen:=HI.out.len
     simp only [List.length_cons] at hfuel hlen
     have hat:=HA.out (c :: t) (by simp;omega) g (by simp;omega) r _ HI.out.go.rd
     clear hon
     go_upto_region 3 with fail
     go_cut [4,26,27,28,29,30,31,32,33,34,35,36,37,38,39] (fun s4 _ _ _ _ _ _ _ _ _ _ _ _ _ _ wx=>s4=.bool (c == 94 || c == 36)∧wx=wc)
     case first=>
      by_cases h1:c=94
      ·subst h1
       go_wp2_with fail
       go_meet
       exact ⟨rfl,rfl⟩
      ·have g2:¬ ((c.toNat:Int)=94):=u8_ne h1
       have H1:Hid ((c == 94)=false):=by show _=_;simpa using h1
       clear h1
       go_wp2_with fail
       go_meet
       refine ⟨congrArg Value.bool ?_,rfl⟩
       show ((c.toNat:Int) == 36)=(c == 94 || (c == 36))
       rw [H1.out,Bool.false_or]
       rw [u8_beq];rfl
     case rest=>
      obtain ⟨rfl,rfl⟩:=hcut
      generalize (c == 94 || c == 36)=an at *
      rcases hatom:Rx.atom fold g (c :: t) with _ | ⟨a,s1⟩
      ·rw [hatom] at hat HX
       have HB:=Lib.hid (HN.out _ HX.out)
       clear hatom
       go_wp2_with fail
       refine hat.mono ?_
       rintro e w2 ⟨rfl,hk⟩
       go_wp2_with fail
       exact ⟨rfl,HP.out _ HB.out _ _ rfl,HI.out.go.kept.trans hk⟩
      ·rw [hatom] at hat HX
       have hl1:=(ext_lens fold g).2.2 _ _ _ hatom
       simp only [List.length_cons] at hl1
       clear hatom
       go_wp2_with fail
       refine hat.mono ?_
       rintro e w2 ⟨⟨p,rfl,hr2,hn2⟩,hk2⟩
       clear hat
       have G2:=HI.out.go.go hr2 hk2 (by simp;omega)
       have hrl:=HI.out.go.rd.lt
       have hpc:=piece_any r p _ a an s1 true fold w2 G2.rd hn2 hrl hk2.size
       rcases hpiece:Rx.piece true a an s1 with _ | ⟨n,s2⟩
       ·rw [hpiece] at hpc
        simp only [hpiece] at HX
        have HB:=Lib.hid (HN.out _ HX.out)
        clear hpiece
        go_wp2_with fail
        refine hpc.mono ?_
        rintro e w3 ⟨rfl,hk3⟩
        go_wp2_with fail
        exact ⟨rfl,HP.out _ HB.out _ _ rfl,G2.kept.trans hk3⟩
       ·rw [hpiece] at hpc
        simp only [hpiece] at HX
        have hl2:=piece_len hpiece
        clear hpiece
        go_wp2_with fail
        refine hpc.mono ?_
        rintro e w3 ⟨⟨q,rfl,hr3,hn3⟩,hk3⟩
        clear hpc
        have G3:=G2.go hr3 hk3 hl2
        have hnd3:=HI.out.nds.kept (hk2.trans hk3) (fun k hk e=>by omega)
        have hown:=hnd3.own
        have hpl:=hnd3.len
        have hw3:=G3.kept.size
        have hob:∀ k,u3.ownBlock=some k→w.heap.size≤k:=fun k e=>(hown.lt k e).1
        have hnew:NdIn w3 (fun b=>w.heap.size≤b∧u3.ownBlock≠some b) q n:=hn3.mono fun k hk=>⟨by have:=HI.out.go.kept.size;omega,fun e=>by
         have:=(HI.out.nds.own.lt k e).2
         omega⟩
        have HNEW:=Lib.hid hnew
        have HOB:=Lib.hid hob
        have HND3:=Lib.hid hnd3
        clear hnew hob hnd3 hk2 hk3 hn2 hn3 hr2 hr3
        go_wp2_with (at_builtin;refine wpList_append_own_at _ rfl _ _ 347 rfl w.heap.size 276 i0 (.pointer none) 1 8 Tryz.underlying347 hi hz0 hz1 hz2 rfl (by decide) _ _ _ rfl (hown.alloc _) ⟨w3.heap.size,0,none⟩ 1 1 [ptrV q] rfl rfl (cell_one_new _ _ _) (by simp [ptrV,Value.oneCell']) (by unfold maxLen;omega) (by omega) (by simp;omega) ?_;intro v' w5 hown' hgrow _ hv')
        have hgrow:(w3.alloc (.cells #[ptrV q] 276)).grownBy w5 u3.ownBlock:=hgrow
        have hv':v'.ownBlock=u3.ownBlock∨v'.ownBlock=some (w3.alloc (.cells #[ptrV q] 276)).heap.size:=hv'
        have hm:=lenAt_rd HI.out.go.rd.at_
        have G5:=G3.pushed hgrow HOB.out hrlt
        have hm5:=lenAt_rd G5.rd.at_
        refine ⟨⟨done ++ [n],ps ++ [q],s2,g,HND3.out.push HNEW.out hown' hgrow hv',G5,by omega,by simp;omega, ?_⟩, ?_⟩
        ·show _=_
         rw [HX.out]
         rcases Rx.branch fold g s2 with _ | ⟨l,s3⟩
         ·rfl
         ·simp
        ·rw [hm,hm5];simp;omega
structure BsIn (fold:Bool) (X:Option (List Rx.Nd × Rx.Bytes)) (w wr:World) (r:Nat) (v:Value) (done:List Rx.Nd) (ps:List Nat) (s':Rx.Bytes) (f' L:Nat):Prop where
 nds:NdsAt wr w.heap.size v done ps
 go:Go1 w wr r s' true fold
 fuel:3 * s'.length+3≤f'
 len:done.length+s'.length≤L
 eq:Hid (X=(Rx.branches fold f' s').map fun x=>(done ++ x.1,x.2))
theorem branchN_len {fold:Bool} {f:Nat} {s s':Rx.Bytes} {n:Rx.Nd} (h:branchN fold f s=some (n,s')):s'.length≤s.length:=by
 unfold branchN at h
 split at h
 ·cases h
 ·cases h
 ·rename_i l s1 _ hb
  cases h
  exact (ext_lens fold f).2.1 _ _ _ hb
theorem take_lt {t s s':Rx.Bytes} (h:Rx.take t s=some s') (ht:0 < t.length):s'.length < s.length:=by
 unfold Rx.take at h;split at h
 ·rename_i hp
  have:=List.IsPrefix.length_le (List.isPrefixOf_iff_prefix.1 hp)
  cases h;simp;omega
 ·cases h
theorem branches_eq (fold:Bool) (f:Nat) (s:Rx.Bytes):Rx.branches fold (f+1) s=match branchN fold f s with
  | none=>none
  | some (n,s1)=>match Rx.take [124] s1 with
   | none=>some ([n],s1)
   | some s2=>(Rx.branches fold f s2).map fun x=>(n :: x.1,x.2):=by
 rw [Rx.branches]
 unfold branchN
 rcases Rx.branch fold f s with _ | ⟨_ | ⟨x,l⟩,s1⟩
 ·rfl
 ·rfl
 ·rfl
theorem branches_any (fold:Bool) (L:Nat) (hA:BranchC fold L):BranchesC fold L:=by
 intro s hsL f hf r w hr
 have HP:Hid (∀ x,branchesN fold f s=x→∀ e w',NodePost w.heap.size r true fold x e w'→NodePost w.heap.size r true fold (branchesN fold f s) e w'):=by
  rintro x rfl e w' h;exact h
 have HN:Hid (∀ x,Rx.branches fold f s=x→branchesN fold f s=x.map fun x=>(Rx.joinN .alt x.1,x.2)):=by rintro x rfl;rfl
 generalize hpost:NodePost w.heap.size r true fold (branchesN fold f s)=POST at HP ⊢
 clear hpost
 have G:Go1 w w r s true fold:=⟨hr,Kept.refl _ _⟩
 have hrlt:=hr.lt
 have hslen:=hr.len
 have I:BsIn fold (Rx.branches fold f s) w w r (.slice none 0 0) [] [] s f s.length:=⟨NdsAt.nil _ _,G,hf,by simp,by
  show _=_
  rcases Rx.branches fold f s with _ | ⟨l,s'⟩ <;> rfl⟩
 have HA:=Lib.hid hA
 generalize Rx.branches fold f s=X at HN I
 clear hr hA G hf
 obtain ⟨i0,hi,hz0,hz1,hz2⟩:=info_parts info_node
 go_enter Tryz.func230,Tryz.ntmps230
 go_wp2_with fail
 go_loopw [3] (fun x3 wr=>∃ done ps s' f',BsIn fold X w wr r x3 done ps s' f' s.length) (fun _ wr=>lenAt wr r)
 case atStart=>exact ⟨_,_,_,_,I⟩
 case round=>
  clear I
  obtain ⟨done,ps,s',f',I⟩:=hrel
  obtain ⟨g,rfl⟩:∃ g,f'=g+1:=⟨f' - 1,by have:=I.fuel;omega⟩
  have HX:Hid (X=(match branchN fold g s' with
    | none=>none
    | some (n,s1)=>match Rx.take [124] s1 with
     | none=>some ([n],s1)
     | some s2=>(Rx.branches fold g s2).map fun (x:List Rx.Nd × Rx.Bytes)=>(n :: x.1,x.2)).map fun (x:List Rx.Nd × Rx.Bytes)=>(done ++ x.1,x.2)):=by
   show _=_
   rw [I.eq.out,branches_eq]
  have hfuel:=I.fuel
  have hlen:=I.len
  have hbr:=HA.out s' (by omega) g (by omega) r _ I.go.rd
  have HI:=Lib.hid I
  clear I
  rcases hbn:branchN fold g s' with _ | ⟨n,s1⟩
  ·rw [hbn] at hbr HX
   have HB:=Lib.hid (HN.out _ HX.out)
   clear hbn
   go_wp2_with fail
   refine hbr.mono ?_
   rintro e w2 ⟨rfl,hk⟩
   go_wp2_with fail
   exact ⟨rfl,HP.out _ HB.out _ _ rfl,HI.out.go.kept.trans hk⟩
  ·rw [hbn] at hbr
   simp only [hbn] at HX
   have hl1:=branchN_len hbn
   clear hbn
   go_wp2_with fail
   refine hbr.mono ?_
   rintro e w3 ⟨⟨q,rfl,hr3,hn3⟩,hk3⟩
   clear hbr
   have G3:=HI.out.go.go hr3 hk3 hl1
   have hnd3:=HI.out.nds.kept hk3 (fun k hk e=>by omega)
   have hown:=hnd3.own
   have hpl:=hnd3.len
   have hw3:=G3.kept.size
   have hob:∀ k,u3.ownBlock=some k→w.heap.size≤k:=fun k e=>(hown.lt k e).1
   have hnew:NdIn w3 (fun b=>w.heap.size≤b∧u3.ownBlock≠some b) q n:=hn3.mono fun k hk=>⟨by have:=HI.out.go.kept.size;omega,fun e=>by
    have:=(HI.out.nds.own.lt k e).2
    omega⟩
   have HNEW:=Lib.hid hnew
   have HOB:=Lib.hid hob
   have HND3:=Lib.hid hnd3
   clear hnew hob hnd3 hk3 hn3 hr3
   go_wp2_with (at_builtin;refine wpList_append_own_at _ rfl _ _ 347 rfl w.heap.size 276 i0 (.pointer none) 1 8 Tryz.underlying347 hi hz0 hz1 hz2 rfl (by decide) _ _ _ rfl (hown.alloc _) ⟨w3.heap.size,0,none⟩ 1 1 [ptrV q] rfl rfl (cell_one_new _ _ _) (by simp [ptrV,Value.oneCell']) (by unfold maxLen;omega) (by omega) (by simp;omega) ?_;intro v' w5 hown' hgrow _ hv')
   have hgrow:(w3.alloc (.cells #[ptrV q] 276)).grownBy w5 u3.ownBlock:=hgrow
   have hv':v'.ownBlock=u3.ownBlock∨v'.ownBlock=some (w3.alloc (.cells #[ptrV q] 276)).heap.size:=hv'
   have hm:=lenAt_rd HI.out.go.rd.at_
   have G5:=G3.pushed hgrow HOB.out hrlt
   have HND5:=Lib.hid (HND3.out.push HNEW.out hown' hgrow hv')
   clear hown' hgrow hv' hown G3
   have ht:=(Go1.mk G5.rd (Kept.refl _ _):Go1 w5 w5 r s1 true fold).take [124] _ rfl
   rcases htk:Rx.take [124] s1 with _ | s2
   ·rw [htk] at ht
    simp only [htk] at HX
    have HB:=Lib.hid (HN.out _ HX.out)
    clear htk
    go_wp2_with fail
    refine ht.mono ?_
    rintro e w6 ⟨rfl,G6⟩
    clear ht
    simp only [Option.getD_none] at G6
    have hk6:Kept (·=r) w w6:=G5.kept.trans G6.kept
    have hnd6:=HND5.out.kept G6.kept (fun k hk e=>by omega)
    have hj:=join_any 5 .alt .alt _ _ _ w.heap.size w6 hnd6 hk6.size (by simp;omega)
    go_wp2_with fail
    refine hj.mono ?_
    rintro e w7 ⟨⟨p,rfl,hn⟩,hbl⟩
    go_wp2_with fail
    go_ret
    exact ⟨HP.out _ HB.out _ _ ⟨p,rfl,G6.rd.at_.keep hbl G6.rd.lt,hn⟩,hk6.trans (Kept.of_below hbl)⟩
   ·rw [htk] at ht
    simp only [htk] at HX
    have hl2:=take_lt htk (by decide)
    clear htk
    go_wp2_with fail
    refine ht.mono ?_
    rintro e w6 ⟨rfl,G6⟩
    clear ht
    simp only [Option.getD_some] at G6
    have hk6:Kept (·=r) w w6:=G5.kept.trans G6.kept
    have hnd6:=HND5.out.kept G6.kept (fun k hk e=>by omega)
    have hm6:=lenAt_rd G6.rd.at_
    have HND6:=Lib.hid hnd6
    clear hnd6
    go_wp2_with fail
    refine ⟨⟨done ++ [n],ps ++ [q],s2,g,HND6.out,⟨G6.rd,hk6⟩,by omega,by simp;omega, ?_⟩, ?_⟩
    ·show _=_
     rw [HX.out]
     rcases Rx.branches fold g s2 with _ | ⟨l,s3⟩
     ·rfl
     ·simp
    ·rw [hm,hm6];omega
theorem ext_all (fold:Bool):∀ L,AtomC fold L∧BranchC fold L∧BranchesC fold L:=by
 intro L
 induction L using Nat.strongRecOn with
 | ind L ih=>
  have h1:AtomC fold L:=atom_any fold L fun L' h=>(ih L' h).2.2
  have h2:=branch_any fold L h1
  exact ⟨h1,h2,branches_any fold L h2⟩
end Go.Proofs.YtefpcacnblaokaaGreatDoor.Rg

/-
  The walk of plain, given that of pieces. Condition: what is told lies in memory.
-/
set_option maxRecDepth 100000
set_option maxHeartbeats 3200000
namespace Go.Proofs.YtefpcacnblaokaaGreatDoor.Rg
open Go.RowKit Go.Shelf Go.Maps
theorem bas_lens (fold:Bool) (f:Nat):(∀ s free l s',Rx.pieces fold f free s=some (l,s')→s'.length≤s.length)∧(∀ s n s',Rx.basic fold f s=some (n,s')→s'.length≤s.length)∧(∀ s n s',Rx.plain fold f s=some (n,s')→s'.length < s.length):=by
 induction f with
 | zero=>exact ⟨fun s fr l s' h=>by simp [Rx.pieces] at h,fun s l s' h=>by simp [Rx.basic] at h,fun s n s' h=>by simp [Rx.plain] at h⟩
 | succ f ih=>
  obtain ⟨i1,i2,i3⟩:=ih
  refine ⟨fun s free l s' h=>?_,fun s n s' h=>?_,fun s n s' h=>?_⟩
  ·unfold Rx.pieces at h
   split at h
   ·cases h;exact Nat.le_refl _
   ·split at h
    ·rw [Option.map_eq_some_iff] at h
     obtain ⟨x,hx,e⟩:=h
     cases e
     have:=i1 _ _ _ _ hx
     have h2:s.tail.length≤s.length:=by simp
     omega
    ·split at h
     ·cases h
     ·split at h
      ·cases h
      ·rename_i a s1 ha
       have h1:=i3 _ _ _ ha
       split at h
       ·cases h
       ·rename_i p s2 hp
        have h2:=piece_len hp
        rw [Option.map_eq_some_iff] at h
        obtain ⟨x,hx,e⟩:=h
        cases e
        have:=i1 _ _ _ _ hx
        omega
  ·unfold Rx.basic at h
   split at h
   ·rename_i r hr
    have h1:=take_len hr
    rw [Option.map_eq_some_iff] at h
    obtain ⟨x,hx,e⟩:=h
    cases e
    have:=i1 _ _ _ _ hx
    omega
   ·rw [Option.map_eq_some_iff] at h
    obtain ⟨x,hx,e⟩:=h
    cases e
    exact i1 _ _ _ _ hx
  ·unfold Rx.plain at h
   split at h
   ·rename_i r hr
    have h1:=take_lt hr (by decide)
    split at h
    ·cases h
    ·rename_i n1 s1 hb
     have h2:=i2 _ _ _ hb
     rw [Option.map_eq_some_iff] at h
     obtain ⟨x,hx,e⟩:=h
     cases e
     have:=take_len hx
     omega
   ·split at h
    ·rename_i r hr
     have h1:=take_lt hr (by decide)
     have:=bracket_len h;omega
    ·split at h
     ·rename_i r hr
      have h1:=take_lt hr (by decide)
      cases h;exact h1
     ·split at h
      ·rename_i r hr
       have h1:=take_lt hr (by decide)
       have:=escaped_len h;omega
      ·split at h
       ·cases h
       ·cases h;simp
def PlainC (fold:Bool) (L:Nat):Prop:=∀ (s:Rx.Bytes),s.length≤L→∀ f,3 * s.length+1≤f→∀ (r:Nat) (w:World),Rd w r s false fold →
 Calls Tryz.prog 277 #[.pointer (some ⟨r,0,none⟩)] w fun e w'=>NodePost w.heap.size r false fold (Rx.plain fold f s) e w'∧Kept (·=r) w w'
def BasicC (fold:Bool) (L:Nat):Prop:=∀ (s:Rx.Bytes),s.length≤L→∀ f,3 * s.length+3≤f→∀ (r:Nat) (w:World),Rd w r s false fold →
 Calls Tryz.prog 231 #[.pointer (some ⟨r,0,none⟩)] w fun e w'=>NodePost w.heap.size r false fold (Rx.basic fold f s) e w'∧Kept (·=r) w w'
def plainStep (fold:Bool) (f:Nat) (s:Rx.Bytes):Option (Rx.Nd × Rx.Bytes):=match Rx.take [92,40] s with
 | some r=>(match Rx.basic fold f r with
  | none=>none
  | some (n,s1)=>(Rx.take [92,41] s1).map fun s2=>(n,s2))
 | none=>match Rx.take [91] s with
  | some r=>Rx.bracket fold r
  | none=>match Rx.take [46] s with
   | some r=>some (Rx.dot,r)
   | none=>match Rx.take [92] s with
    | some r=>Rx.escaped fold [41,123,125] r
    | none=>match s with
     | []=>none
     | c :: r=>some (Rx.one fold c,r)
theorem plain_step (fold:Bool) (f:Nat) (s:Rx.Bytes):Rx.plain fold (f+1) s=plainStep fold f s:=by
 rw [Rx.plain.eq_def]
 rfl
theorem plain_any (fold:Bool) (L:Nat) (hB:∀ L',L' < L→BasicC fold L'):PlainC fold L:=by
 intro s hsL f hf r w hr
 obtain ⟨f,rfl⟩:∃ g,f=g+1:=⟨f - 1,by omega⟩
 have HP:Hid (∀ x,Rx.plain fold (f+1) s=x→∀ e w',NodePost w.heap.size r false fold x e w'→NodePost w.heap.size r false fold (Rx.plain fold (f+1) s) e w'):=by
  rintro x rfl e w' h;exact h
 have HE:Hid (Rx.plain fold (f+1) s=plainStep fold f s):=plain_step fold f s
 unfold plainStep at HE
 generalize hpost:NodePost w.heap.size r false fold (Rx.plain fold (f+1) s)=POST at HP ⊢
 clear hpost
 have G:Go1 w w r s false fold:=⟨hr,Kept.refl _ _⟩
 have HBs:=Lib.hid hB
 clear hr hB
 go_enter Tryz.func277,Tryz.ntmps277
 cases h1:Rx.take [92,40] s with
 | some u=>
  have hc:=G.take [92,40] _ h1
  have hu:=take_lt h1 (by decide)
  rw [h1] at HE
  simp only [] at HE
  go_wp2_with fail
  refine hc.mono ?_
  rintro e w1 ⟨rfl,G1⟩
  clear hc h1 G
  simp only [Option.getD_some] at G1
  have hb:=HBs.out (L - 1) (by omega) u (by omega) f (by omega) r w1 G1.rd
  have hsz:=G1.kept.size
  rcases hbn:Rx.basic fold f u with _ | ⟨n,s1⟩
  ·rw [hbn] at hb HE
   clear hbn
   go_wp2_with fail
   refine hb.mono ?_
   rintro e w2 ⟨rfl,hk⟩
   go_wp2_with fail
   exact ⟨rfl,HP.out _ HE.out _ _ rfl,G1.kept.trans hk⟩
  ·have hl1:=(bas_lens fold f).2.1 _ _ _ hbn
   rw [hbn] at hb HE
   clear hbn
   go_wp2_with fail
   refine hb.mono ?_
   rintro e w2 ⟨⟨p,rfl,hr2,hn2⟩,hk⟩
   have G2:=G1.go hr2 hk hl1
   have hrlt:=G1.rd.lt
   clear hb hr2
   rcases htk:Rx.take [92,41] s1 with _ | s2
   ·have hm:=G2.must [92,41] _ htk
    rw [htk] at HE
    go_wp2_with fail
    refine hm.mono ?_
    rintro e w3 ⟨rfl,hk3⟩
    clear hm htk
    go_wp2_with fail
    exact ⟨rfl,HP.out _ HE.out _ _ rfl,hk3⟩
   ·have hm:=must_any r [92,41] s1 false fold w2 G2.rd.at_
    unfold MustPost at hm
    rw [htk] at HE hm
    go_wp2_with fail
    refine hm.mono ?_
    rintro e w3 ⟨⟨rfl,hr3⟩,hk3⟩
    clear hm htk
    go_wp2_with fail
    go_ret
    exact ⟨HP.out _ HE.out _ _ ⟨p,rfl,hr3,(hn2.kept hk3 fun k hk e=>by omega).mono fun k hk=>by omega⟩,G2.kept.trans hk3⟩
 | none=>
 have hc:=G.take [92,40] _ h1
 rw [h1] at HE
 simp only [] at HE
 clear HBs
 go_wp2_with fail
 refine hc.mono ?_
 rintro e w1 ⟨rfl,G1⟩
 clear hc h1 G
 simp only [Option.getD_none] at G1
 cases h2:Rx.take [91] s with
 | some u=>
  have hc:=G1.take [91] _ h2
  rw [h2] at HE
  simp only [] at HE
  go_wp2_with fail
  refine hc.mono ?_
  rintro e w2 ⟨rfl,G2⟩
  clear hc h2 G1
  simp only [Option.getD_some] at G2
  have hsz:=G2.kept.size
  have hb:=bracket_any r u false fold w2 G2.rd
  go_wp2_with fail
  refine hb.mono ?_
  rintro e w3 ⟨hp,hk⟩
  cases hbn:Rx.bracket fold u with
  | none=>
   rw [hbn] at hp HE
   have hp:e=_:=hp
   subst hp
   clear hbn hb
   go_wp2_with fail
   exact ⟨rfl,HP.out _ HE.out _ _ rfl,G2.kept.trans hk⟩
  | some x=>
   obtain ⟨n,s1⟩:=x
   rw [hbn] at hp HE
   obtain ⟨p,rfl,hr2,hn2⟩:=hp
   clear hbn hb
   go_wp2_with fail
   go_ret
   exact ⟨HP.out _ HE.out _ _ ⟨p,rfl,hr2,hn2.mono fun k hk=>by omega⟩,G2.kept.trans hk⟩
 | none=>
 have hc:=G1.take [91] _ h2
 rw [h2] at HE
 simp only [] at HE
 go_wp2_with fail
 refine hc.mono ?_
 rintro e w2 ⟨rfl,G2⟩
 clear hc h2 G1
 simp only [Option.getD_none] at G2
 cases h3:Rx.take [46] s with
 | some u=>
  have hc:=G2.take [46] _ h3
  rw [h3] at HE
  simp only [] at HE
  go_wp2_with fail
  refine hc.mono ?_
  rintro e w3 ⟨rfl,G3⟩
  clear hc h3 G2
  simp only [Option.getD_some] at G3
  go_wp2_with fail
  refine (dot_any _).mono ?_
  rintro e w4 ⟨rfl,hb,hbl⟩
  go_wp2_with fail
  go_ret
  exact ⟨HP.out _ HE.out _ _ ⟨w3.heap.size,rfl,G3.rd.at_.keep hbl G3.rd.lt,.set G3.kept.size hb⟩,G3.kept.trans (Kept.of_below hbl)⟩
 | none=>
 have hc:=G2.take [46] _ h3
 rw [h3] at HE
 simp only [] at HE
 go_wp2_with fail
 refine hc.mono ?_
 rintro e w3 ⟨rfl,G3⟩
 clear hc h3 G2
 simp only [Option.getD_none] at G3
 cases h4:Rx.take [92] s with
 | some u=>
  have hc:=G3.take [92] _ h4
  rw [h4] at HE
  simp only [] at HE
  go_wp2_with fail
  refine hc.mono ?_
  rintro e w4 ⟨rfl,G4⟩
  clear hc h4 G3
  simp only [Option.getD_some] at G4
  have hsz:=G4.kept.size
  have hb:=escaped_any r [41,123,125] u false fold w4 G4.rd
  go_wp2_with fail
  refine hb.mono ?_
  rintro e w5 ⟨hp,hk⟩
  cases hbn:Rx.escaped fold [41,123,125] u with
  | none=>
   rw [hbn] at hp HE
   have hp:e=_:=hp
   subst hp
   clear hbn hb
   go_wp2_with fail
   exact ⟨rfl,HP.out _ HE.out _ _ rfl,G4.kept.trans hk⟩
  | some x=>
   obtain ⟨n,s1⟩:=x
   rw [hbn] at hp HE
   obtain ⟨p,rfl,hr2,hn2⟩:=hp
   clear hbn hb
   go_wp2_with fail
   go_ret
   exact ⟨HP.out _ HE.out _ _ ⟨p,rfl,hr2,hn2.mono fun k hk=>by omega⟩,G4.kept.trans hk⟩
 | none=>
 have hc:=G3.take [92] _ h4
 rw [h4] at HE
 simp only [] at HE
 go_wp2_with fail
 refine hc.mono ?_
 rintro e w4 ⟨rfl,G4⟩
 clear hc h4 G3
 simp only [Option.getD_none] at G4
 have hx:=G4.next
 cases s with
 | nil=>
  have HE2:Hid (Rx.plain fold (f+1) []=none):=HE.out
  clear HE
  go_wp2_with fail
  refine hx.mono ?_
  rintro e w5 ⟨rfl,hk⟩
  go_wp2_with fail
  exact ⟨rfl,HP.out _ HE2.out _ _ rfl,hk⟩
 | cons c t=>
  have HE2:Hid (Rx.plain fold (f+1) (c :: t)=some (Rx.one fold c,t)):=HE.out
  clear HE
  go_wp2_with fail
  refine hx.mono ?_
  rintro e w5 ⟨rfl,G5⟩
  clear hx
  go_wp2_with fail
  refine (one_any r c t false fold _ G5.rd.at_).mono ?_
  rintro e w6 ⟨rfl,hb,hbl⟩
  go_wp2_with fail
  go_ret
  have:=NodePost.one (B:=w.heap.size) G5 G5.kept.size hb hbl
  exact ⟨HP.out _ HE2.out _ _ this.1,this.2⟩
end Go.Proofs.YtefpcacnblaokaaGreatDoor.Rg
