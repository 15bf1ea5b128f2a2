/-
  Texts of this seat put together: Sd50, May, Sd51.
-/
import Derived.Test.YtefpcacnblaokaaGreatDoorQ36
import Derived.Test.YtefpcacnblaokaaGreatDoorQ3

/-
  What the law's runs of the laws' own scripts come to. Conditions: limits that may be; few bytes.
-/
namespace Go.Proofs.YtefpcacnblaokaaGreatDoor
open Go.RowKit Go.Shelf Go.Maps
namespace Op
theorem parse_one (X:Bytes) (h:X.head?≠some 45):parse [110,101,58,102,58] [X]=some ([],[X]):=by
 unfold parse
 show parseF _ 1 [X]=_
 rw [parseF,if_pos (Or.inr h)]
theorem parse_n (X:Bytes) (h:X.head?≠some 45):parse [110,101,58,102,58] [[45,110],X]=some ([(110,[])],[X]):=by
 unfold parse
 show parseF _ 2 ([45,110] :: [X])=_
 rw [parseF,if_neg (by decide),if_neg (by decide)]
 have hw:wordF (kinds [110,101,58,102,58]) (([45,110]:Bytes).drop 1) [X]=some ([(110,[])],[X]):=by
  show wordF _ [110] [X]=_
  rw [wordF,if_neg (by decide),if_pos (by decide),wordF]
 rw [hw]
 simp only
 rw [parseF,if_pos (Or.inr h)]
 rfl
end Op
namespace Sd
theorem outF_len (line:Nat) (g:Nat→Bytes→Bytes→Bytes) (hg:∀ n l r,(g n l r).length≤l.length+1):∀ (f n:Nat) (inp:Bytes),(outF line g f n inp).1.length≤2 * inp.length:=by
 intro f
 induction f with
 | zero=>intro n inp;simp [outF]
 | succ f ih=>
  intro n inp
  unfold outF
  by_cases h0:inp=[]
  ·subst h0;simp
  rw [if_neg h0]
  have h1:=lineOf_lt inp h0
  have h2:=lineOf_all inp
  by_cases hl:line < (Wi.lineOf inp).1.length
  ·rw [if_pos hl];simp
  ·rw [if_neg hl]
   have h3:=ih (n+1) (Wi.lineOf inp).2.2
   have h4:=hg (n+1) (Wi.lineOf inp).1 (Wi.lineOf inp).2.2
   simp only [List.length_append]
   omega
theorem tacF_len (line:Nat):∀ (f n:Nat) (h inp:Bytes),(tacF line f n h inp).1.length≤2 * inp.length+h.length+2:=by
 intro f
 induction f with
 | zero=>intro n h inp;simp [tacF]
 | succ f ih=>
  intro n h inp
  unfold tacF
  by_cases h0:inp=[]
  ·subst h0;simp
  rw [if_neg h0]
  have h1:=lineOf_lt inp h0
  have h2:=lineOf_all inp
  by_cases hl:line < (Wi.lineOf inp).1.length
  ·rw [if_pos hl];simp
  ·rw [if_neg hl]
   have h3:=ih (n+1) (if n=0 then (Wi.lineOf inp).1 else (Wi.lineOf inp).1 ++ [10] ++ h) (Wi.lineOf inp).2.2
   have hH:(if n=0 then (Wi.lineOf inp).1 else (Wi.lineOf inp).1 ++ [10] ++ h).length≤(Wi.lineOf inp).1.length+1+h.length:=by
    by_cases hn:n=0
    ·rw [if_pos hn];omega
    ·rw [if_neg hn];simp only [List.length_append,List.length_cons,List.length_nil];omega
   generalize (if n=0 then (Wi.lineOf inp).1 else (Wi.lineOf inp).1 ++ [10] ++ h)=H at *
   simp only [List.length_append]
   by_cases hr:(Wi.lineOf inp).2.2=[]
   ·rw [if_pos hr]
    have e1:(tacF line f (n+1) H (Wi.lineOf inp).2.2).1=[]:=by
     rw [hr]
     cases f with
     | zero=>rfl
     | succ f=>rw [tacF,if_pos rfl]
    rw [e1]
    simp only [List.length_append,List.length_cons,List.length_nil]
    omega
   ·rw [if_neg hr,List.length_nil]
    omega
def XS (a b:Nat):Bytes:=Lib.itoa a ++ 44 :: Lib.itoa b
theorem XS_head (a b:Nat) (h:a < 100):∃ c t,XS a b=c :: t∧Ord.digit c=true:=by
 obtain ⟨d1,-,d3,-⟩:=digits_99 a h
 unfold XS
 cases hx:Lib.itoa (a:Int) with
 | nil=>rw [hx] at d3;simp at d3
 | cons c t=>
  rw [hx] at d1
  simp only [List.all_cons,Bool.and_eq_true] at d1
  exact ⟨c,_,rfl,d1.1⟩
theorem XS_len (a b:Nat) (h:a < 100) (h2:b < 100):(XS a b).length≤5:=by
 obtain ⟨-,-,-,d4⟩:=digits_99 a h
 obtain ⟨-,-,-,e4⟩:=digits_99 b h2
 unfold XS
 simp only [List.length_append,List.length_cons]
 omega
theorem XS_45 (a b:Nat) (h:a < 100) (s:Bytes):(XS a b ++ s).head?≠some 45:=by
 obtain ⟨c,t,e,hd⟩:=XS_head a b h
 rw [e]
 intro e2
 simp only [List.cons_append,List.head?_cons,Option.some.injEq] at e2
 subst e2
 revert hd
 decide
theorem XS_35 (a b:Nat) (h:a < 100) (s r:Bytes):XS a b ++ s≠35 :: r:=by
 obtain ⟨c,t,e,hd⟩:=XS_head a b h
 rw [e]
 intro e2
 simp only [List.cons_append,List.cons.injEq] at e2
 obtain ⟨rfl,-⟩:=e2
 revert hd
 decide
theorem read_XS (a b:Nat) (ha:1≤a∧a < 100) (hb:1≤b∧b < 100) (c:UInt8) (neg:Bool) (hc:c=112∨c=100) :
  read (XS a b ++ ((if neg then [33] else []) ++ [c]))=.ok [cmd0 c [.num a,.num b] neg]:=by
 have:=read_range a b ha hb c neg hc
 unfold XS
 rw [List.append_assoc,List.cons_append]
 exact this
end Sd
def RunL (rest:List Bts) (inp:Bts) (buf line run:Nat) (X:Bts):Prop:=∃ out,RunS rest inp ((if Sd.longs line inp then 1 else 0),out,errF (Sd.longs line inp)) buf line run∧(Sd.longs line inp=false→out=X)∧out.length≤100000
structure Lims (buf line run:Nat):Prop where
 a:1≤buf
 b:1≤line
 c:line≤run
 d:run≤1099511627776
 e:buf≤1099511627776
theorem runL_of (rest:List Bts) (hpos:0 < rest.length) (hll:rest.length≤1000) (htot:totL rest≤1000000) (L:List (UInt8 × Bts)) (script:Bts) (hp:Op.parse [110,101,58,102,58] rest=some (L,[script])) (hLN:L.length≤1000000) (hL1:Op.has L 101=false) (hL2:Op.has L 102=false)
  (hsl:script.length≤900000) (hs35:∀ r,script≠35 :: r) (inp:Bts) (hin:inp.length≤2000) (cs:List Sd.Cmd) (hrd:Sd.read script=.ok cs) (hok:ScriptOk cs) {buf line run:Nat} (hl:Lims buf line run)
  (g:Nat→Bts→Bts→Bts) (k:Nat→Bts→Bts) (hg:∀ n l r,g n l r=k n l) (hk:∀ n l,(k n l).length≤l.length+1)
  (gf:Nat) (hrun:∃ q',Sd.run line (Op.has L 110) cs gf (inp.length+1) (Sd.begun cs inp)=some q'∧q'.out=(Sd.outF line g (inp.length+1) 0 inp).1∧q'.failed=(Sd.outF line g (inp.length+1) 0 inp).2):RunL rest inp buf line run (Sd.told k 0 (Wi.lines inp)):=by
 obtain ⟨q,h1,h2,h3⟩:=hrun
 obtain ⟨t1,t2⟩:=Sd.outF_told line g k hg (inp.length+1) 0 inp (Nat.lt_succ_self _)
 have hlen:=Sd.outF_len line g (fun n l r=>by rw [hg];exact hk n l) (inp.length+1) 0 inp
 rw [← h2] at hlen
 have:=run_script rest hpos hll htot L script hp hLN hL1 hL2 hsl hs35 inp (by omega) cs hrd hok buf line run hl.a hl.b hl.c hl.d hl.e gf _ q h1 (by omega)
 unfold resF at this
 rw [h3,t1] at this
 exact ⟨q.out,this,fun h=>by rw [h2];exact t2 h,by omega⟩
def allK (_:Nat) (l:Bts):Bts:=l ++ [10]
def rangeK (a b n:Nat) (l:Bts):Bts:=if Sd.inR a b n then l ++ [10] else []
def restK (a b n:Nat) (l:Bts):Bts:=if Sd.inR a b n then [] else l ++ [10]
theorem rangeK_len (a b n:Nat) (l:Bts):(rangeK a b n l).length≤l.length+1:=by unfold rangeK;split <;> simp
theorem restK_len (a b n:Nat) (l:Bts):(restK a b n l).length≤l.length+1:=by unfold restK;split <;> simp
theorem cmd0_ok (c:UInt8) (hc:c=112∨c=100) (a b:Nat) (ha:a < 100) (hb:b < 100) (neg:Bool):ScriptOk [Sd.cmd0 c [.num a,.num b] neg]:=by
 refine okB_of ?_ (by simp)
 have h1:decide (a≤1000000000)=true:=decide_eq_true (by omega)
 have h2:decide (b≤1000000000)=true:=decide_eq_true (by omega)
 rcases hc with rfl | rfl <;> simp [okB,cmdB,Sd.cmd0,adrB,h1,h2]
theorem run_all (inp:Bts) (hin:inp.length≤2000) {buf line run:Nat} (hl:Lims buf line run):RunL [[]] inp buf line run (Sd.flat (Wi.lines inp)):=by
 have:=runL_of [[]] (by decide) (by decide) (by decide) [] [] (Op.parse_one [] (by decide)) (by decide) (by decide) (by decide) (by decide) (fun r e=>by cases e) inp hin [] Sd.read_empty (okB_of rfl (by decide)) hl Sd.lineG allK (fun _ _ _=>rfl) (fun _ _=>by unfold allK;simp) 1 (Sd.all_run line (inp.length+1) inp (Nat.lt_succ_self _) (by omega))
 rw [← Sd.told_flat 0]
 exact this
theorem run_p (inp:Bts) (hin:inp.length≤2000) {buf line run:Nat} (hl:Lims buf line run):RunL [[45,110],[112]] inp buf line run (Sd.flat (Wi.lines inp)):=by
 have:=runL_of [[45,110],[112]] (by decide) (by decide) (by decide) [(110,[])] [112] (Op.parse_n [112] (by decide)) (by decide) (by decide) (by decide) (by decide) (fun r e=>by cases e) inp hin _ Sd.read_p (okB_of rfl (by decide)) hl Sd.lineG allK (fun _ _ _=>rfl) (fun _ _=>by unfold allK;simp) 2 (Sd.p_run line (inp.length+1) inp (Nat.lt_succ_self _) (by omega))
 rw [← Sd.told_flat 0]
 exact this
theorem run_range (a b:Nat) (ha:1≤a∧a < 100) (hb:1≤b∧b < 100) (inp:Bts) (hin:inp.length≤2000) {buf line run:Nat} (hl:Lims buf line run):RunL [[45,110],Sd.XS a b ++ [112]] inp buf line run (Sd.told (rangeK a b) 0 (Wi.lines inp)):=by
 have hx:=Sd.XS_len a b ha.2 hb.2
 exact runL_of [[45,110],Sd.XS a b ++ [112]] (by simp) (by simp) (by simp [totL];omega) [(110,[])] _ (Op.parse_n _ (Sd.XS_45 a b ha.2 _)) (by decide) (by decide) (by decide) (by simp;omega) (Sd.XS_35 a b ha.2 _) inp hin _ (Sd.read_XS a b ha hb 112 false (.inl rfl)) (cmd0_ok 112 (.inl rfl) a b ha.2 hb.2 false) hl (Sd.rangeG a b) (rangeK a b) (fun _ _ _=>rfl) (rangeK_len a b) 2 (Sd.range_run line a b ha.1 false (inp.length+1) inp (Nat.lt_succ_self _) (by omega))
theorem run_drop (a b:Nat) (ha:1≤a∧a < 100) (hb:1≤b∧b < 100) (inp:Bts) (hin:inp.length≤2000) {buf line run:Nat} (hl:Lims buf line run):RunL [Sd.XS a b ++ [100]] inp buf line run (Sd.told (restK a b) 0 (Wi.lines inp)):=by
 have hx:=Sd.XS_len a b ha.2 hb.2
 exact runL_of [Sd.XS a b ++ [100]] (by simp) (by simp) (by simp [totL];omega) [] _ (Op.parse_one _ (Sd.XS_45 a b ha.2 _)) (by decide) (by decide) (by decide) (by simp;omega) (Sd.XS_35 a b ha.2 _) inp hin _ (Sd.read_XS a b ha hb 100 false (.inr rfl)) (cmd0_ok 100 (.inr rfl) a b ha.2 hb.2 false) hl (Sd.restG a b) (restK a b) (fun _ _ _=>rfl) (restK_len a b) 2 (Sd.drop_run line a b ha.1 (inp.length+1) inp (Nat.lt_succ_self _) (by omega))
theorem run_rest (a b:Nat) (ha:1≤a∧a < 100) (hb:1≤b∧b < 100) (inp:Bts) (hin:inp.length≤2000) {buf line run:Nat} (hl:Lims buf line run):RunL [[45,110],Sd.XS a b ++ [33,112]] inp buf line run (Sd.told (restK a b) 0 (Wi.lines inp)):=by
 have hx:=Sd.XS_len a b ha.2 hb.2
 exact runL_of [[45,110],Sd.XS a b ++ [33,112]] (by simp) (by simp) (by simp [totL];omega) [(110,[])] _ (Op.parse_n _ (Sd.XS_45 a b ha.2 _)) (by decide) (by decide) (by decide) (by simp;omega) (Sd.XS_35 a b ha.2 _) inp hin _ (Sd.read_XS a b ha hb 112 true (.inl rfl)) (cmd0_ok 112 (.inl rfl) a b ha.2 hb.2 true) hl (Sd.restG a b) (restK a b) (fun _ _ _=>rfl) (restK_len a b) 2 (Sd.range_run line a b ha.1 true (inp.length+1) inp (Nat.lt_succ_self _) (by omega))
theorem run_turn (inp:Bts) (hin:inp.length≤300) {buf line run:Nat} (hl:Lims buf line run):RunL [[45,110],[49,33,71,59,104,59,36,112]] inp buf line run (Sd.flat (Wi.lines inp).reverse):=by
 obtain ⟨q,h1,h2,h3⟩:=Sd.tac_all line (inp.length+1) (Sd.begun Sd.tacCs inp) (Nat.lt_succ_self _) (by show 0+2 * 0+4 * inp.length≤4000;omega) (fun _=>rfl) rfl rfl
 obtain ⟨t1,t2⟩:=Sd.tacF_told line (inp.length+1) 0 [] inp (Nat.lt_succ_self _)
 replace h2:q.out=(Sd.tacF line (inp.length+1) 0 [] inp).1:=h2
 replace h3:q.failed=(Sd.tacF line (inp.length+1) 0 [] inp).2:=h3
 have hlen:=Sd.tacF_len line (inp.length+1) 0 [] inp
 rw [← h2,List.length_nil] at hlen
 have:=run_script [[45,110],[49,33,71,59,104,59,36,112]] (by decide) (by decide) (by decide) [(110,[])] _ (Op.parse_n [49,33,71,59,104,59,36,112] (by decide)) (by decide) (by decide) (by decide) (by decide) (fun r e=>by cases e) inp (by omega) Sd.tacCs Sd.read_tac (okB_of (by kernel_rfl) (by decide)) buf line run hl.a hl.b hl.c hl.d hl.e 4 _ q h1 (by omega)
 unfold resF at this
 rw [h3,t1] at this
 refine ⟨q.out,this,fun h=>?_,by omega⟩
 rw [h2]
 by_cases h0:inp=[]
 ·subst h0
  rw [Sd.tacF,if_pos rfl]
  rfl
 ·rw [t2 h h0,if_pos rfl,List.append_nil]
theorem run_join (inp:Bts) (hin:inp.length≤300) {buf line run:Nat} (hl:Lims buf line run):RunL [[45,110],[58,97,59,36,33,123,78,59,98,97,10,125,59,112]] inp buf line run (Sd.flat (Wi.lines inp)):=by
 obtain ⟨q,h1,h2⟩:=Sd.join_all line (inp.length+2) inp (by omega) (by omega)
 rw [Sd.joinF_told line (inp.length+2) inp (by omega)] at h2
 have hfl:=flat_len inp
 have h3:q.failed=Sd.longs line inp∧(Sd.longs line inp=false→q.out=Sd.flat (Wi.lines inp))∧q.out.length≤100000:=by
  by_cases h0:inp=[]
  ·subst h0
   rw [if_pos rfl] at h2
   obtain ⟨e1,e2⟩:=h2
   refine ⟨e2,fun _=>e1, ?_⟩
   rw [e1]
   decide
  ·rw [if_neg h0] at h2
   cases hlg:Sd.longs line inp with
   | true=>
    rw [hlg] at h2
    obtain ⟨e1,e2⟩:=h2
    exact ⟨e2,fun h=>(by cases h),by rw [e1];simp⟩
   | false=>
    rw [hlg] at h2
    obtain ⟨e1,e2⟩:=h2
    rw [if_neg h0,Sd.join_flat _ (by rw [Wi.lines_cons inp h0];simp)] at e1
    exact ⟨e2,fun _=>e1,by rw [e1];omega⟩
 obtain ⟨h3,h4,h5⟩:=h3
 have:=run_script [[45,110],[58,97,59,36,33,123,78,59,98,97,10,125,59,112]] (by decide) (by decide) (by decide) [(110,[])] _ (Op.parse_n [58,97,59,36,33,123,78,59,98,97,10,125,59,112] (by decide)) (by decide) (by decide) (by decide) (by decide) (fun r e=>by cases e) inp (by omega) Sd.joinCs Sd.read_join (okB_of (by kernel_rfl) (by decide)) buf line run hl.a hl.b hl.c hl.d hl.e _ _ q h1 (by omega)
 unfold resF at this
 rw [h3] at this
 exact ⟨q.out,this,h4,h5⟩
end Go.Proofs.YtefpcacnblaokaaGreatDoor

/-
  The walks of the document's May, and of what it asks of the tree of a job without nodes. Condition: a job without nodes, with arguments.
-/
set_option maxRecDepth 100000
set_option maxHeartbeats 8000000
namespace Go.Proofs.YtefpcacnblaokaaGreatDoor
open Go.RowKit Go.Shelf Go.Maps
def RTr (W:World) (t:Nat):Prop:=∃ a i,Blk W t #[.slice (some ⟨a,0,none⟩) 1 1,.int .i64 2] 71∧Blk W a #[.pointer (some ⟨i,0,none⟩)] 54∧Blk W i #[.int .i64 1,.bool true,.int .i64 493,.int .i64 0,.slice none 0 0,.slice none 0 0,.int .i64 1,.int .i64 0] 53
theorem RTr.below {W W':World} {t:Nat} (h:RTr W t) (hb:Below W.heap.size W W'):RTr W' t:=by
 obtain ⟨a,i,h1,h2,h3⟩:=h
 exact ⟨a,i,h1.keep hb h1.lt,h2.keep hb h2.lt,h3.keep hb h3.lt⟩
theorem rnew_any (w:World):Calls Tryz.prog 18 #[] w fun e w'=>∃ t,e=.returned (.pointer (some ⟨t,0,none⟩))∧RTr w' t∧Below w.heap.size w w':=by
 go_enter Tryz.func18,Tryz.ntmps18
 go_wp2_with fail
 go_ret
 obtain ⟨w1,h1⟩:∃ w1,w.alloc (.cells #[.int .i64 1,.bool true,.int .i64 493,.int .i64 0,.slice none 0 0,.slice none 0 0,.int .i64 1,.int .i64 0] 53)=w1:=⟨_,rfl⟩
 obtain ⟨w2,h2⟩:∃ w2,w1.alloc (.cells #[.pointer (some ⟨w.heap.size,0,none⟩)] 54)=w2:=⟨_,rfl⟩
 have s1:w1.heap.size=w.heap.size+1:=by rw [← h1];simp
 have s2:w2.heap.size=w.heap.size+1+1:=by rw [← h2];simp [s1]
 have k1:Blk w1 w.heap.size #[.int .i64 1,.bool true,.int .i64 493,.int .i64 0,.slice none 0 0,.slice none 0 0,.int .i64 1,.int .i64 0] 53:=by rw [← h1];exact Blk.new _ _ _
 have k2:Blk w2 (w.heap.size+1) #[.pointer (some ⟨w.heap.size,0,none⟩)] 54:=by rw [← h2,← s1];exact Blk.new _ _ _
 have k12:Blk w2 w.heap.size #[.int .i64 1,.bool true,.int .i64 493,.int .i64 0,.slice none 0 0,.slice none 0 0,.int .i64 1,.int .i64 0] 53:=by rw [← h2];exact k1.alloc _
 have b2:Below w.heap.size w w2:=by rw [← h2,← h1];exact ((Below.refl _ _).alloc (Nat.le_refl _) _).alloc (by simp) _
 rw [h1,h2,← s2]
 refine ⟨_,rfl,⟨_,_,Blk.new _ _ _,k2.alloc _,k12.alloc _⟩,b2.alloc b2.size _⟩
theorem rload_none (c:Nat) (w:World):Calls Tryz.prog 13 #[.slice none 0 c] w fun e w'=>∃ t,e=.returned (.tuple #[.pointer (some ⟨t,0,none⟩),.int .i64 0])∧RTr w' t∧Below w.heap.size w w':=by
 go_enter Tryz.func13,Tryz.ntmps13
 go_wp2_with fail
 refine (rnew_any _).mono ?_
 rintro e w1 ⟨t,rfl,ht,hb⟩
 have HT:=Lib.hid ht
 have HB:=Lib.hid hb
 clear ht hb
 go_wp2_with fail
 go_loopw [5] (fun x5 wr=>x5=.int .i64 0∧wr=w1) (fun _ _=>0)
 case atStart=>exact ⟨rfl,rfl⟩
 case round=>
  obtain ⟨rfl,rfl⟩:=hrel
  go_wp2_with fail
  go_ret2
  exact ⟨t,rfl,HT.out,HB.out⟩
theorem ritem_any (t:Nat) (w:World) (h:RTr w t):Calls Tryz.prog 15 #[.pointer (some ⟨t,0,none⟩),.int .i64 1] w fun e w'=>∃ i,e=.returned (.pointer (some ⟨i,0,none⟩))∧w.cell? ⟨i,1,none⟩=some (.bool true)∧w'=w:=by
 obtain ⟨a,i,h1,h2,h3⟩:=h
 have c1:=h1.cell 0 (v:=.slice (some ⟨a,0,none⟩) 1 1) rfl
 have c2:=h2.cell 0 (v:=.pointer (some ⟨i,0,none⟩)) rfl
 have c3:=h3.cell 0 (v:=.int .i64 1) rfl
 have c4:=Lib.hid (h3.cell 1 (v:=.bool true) rfl)
 clear h1 h2 h3
 go_enter Tryz.func15,Tryz.ntmps15
 go_wp2_with fail
 go_loopw [5] (fun x5 wr=>x5=.int .i64 0∧wr=w) (fun _ _=>0)
 case atStart=>exact ⟨rfl,rfl⟩
 case round=>
  obtain ⟨rfl,rfl⟩:=hrel
  go_wp2_with fail
  go_ret
  exact ⟨i,rfl,c4.out,rfl⟩
theorem rparts_nil (w:World):Calls Tryz.prog 25 #[.string ⟨#[]⟩] w fun e w'=>e=.returned (.slice none 0 0)∧w'=w:=by
 go_enter Tryz.func25,Tryz.ntmps25
 go_wp2_with fail
 go_loopw [3,4,5] (fun x3 x4 x5 wr=>x3=.slice none 0 0∧((x4=.int .i64 0∧x5=.int .i64 0)∨(x4=.int .i64 1∧x5=.int .i64 1))∧wr=w) (fun _ _ x5 _=>1 - (intOf x5).toNat)
 case atStart=>exact ⟨rfl,.inl ⟨rfl,rfl⟩,rfl⟩
 case round=>
  obtain ⟨rfl,h,rfl⟩:=hrel
  rcases h with ⟨rfl,rfl⟩ | ⟨rfl,rfl⟩
  ·go_wp2_with fail
   exact ⟨⟨rfl,.inr ⟨rfl,rfl⟩,by first | rfl | trivial⟩,by simp [intOf]⟩
  ·go_wp2_with fail
   go_ret
   exact ⟨rfl,rfl⟩
theorem rparts_one (w:World):Calls Tryz.prog 25 #[.string ⟨#[47]⟩] w fun e w'=>e=.returned (.slice none 0 0)∧w'=w:=by
 go_enter Tryz.func25,Tryz.ntmps25
 go_wp2_with fail
 go_loopw [3,4,5] (fun x3 x4 x5 wr=>x3=.slice none 0 0∧((x4=.int .i64 0∧x5=.int .i64 0)∨(x4=.int .i64 1∧x5=.int .i64 1)∨(x4=.int .i64 2∧x5=.int .i64 2))∧wr=w) (fun _ _ x5 _=>2 - (intOf x5).toNat)
 case atStart=>exact ⟨rfl,.inl ⟨rfl,rfl⟩,rfl⟩
 case round=>
  obtain ⟨rfl,h,rfl⟩:=hrel
  rcases h with ⟨rfl,rfl⟩ | ⟨rfl,rfl⟩ | ⟨rfl,rfl⟩
  ·go_wp2_with fail
   exact ⟨⟨rfl,.inr (.inl ⟨rfl,rfl⟩),by first | rfl | trivial⟩,by simp [intOf]⟩
  ·go_wp2_with fail
   exact ⟨⟨rfl,.inr (.inr ⟨rfl,rfl⟩),by first | rfl | trivial⟩,by simp [intOf]⟩
  ·go_wp2_with fail
   go_ret
   exact ⟨rfl,rfl⟩
theorem rleads_none (t:Nat) (w:World):Calls Tryz.prog 24 #[.pointer (some ⟨t,0,none⟩),.int .i64 1,.slice none 0 0] w fun e w'=>e=.returned (.tuple #[.int .i64 1,.int .i64 0])∧w'=w:=by
 go_enter Tryz.func24,Tryz.ntmps24
 go_wp2_with fail
 go_loopw [1,8] (fun x1 x8 wr=>x1=.int .i64 1∧x8=.int .i64 0∧wr=w) (fun _ _ _=>0)
 case atStart=>exact ⟨rfl,rfl,rfl⟩
 case round=>
  obtain ⟨rfl,rfl,rfl⟩:=hrel
  go_wp2_with fail
  go_ret2
  exact ⟨rfl,rfl⟩
theorem rfrom_any (t:Nat) (w:World) (h:RTr w t):Calls Tryz.prog 23 #[.pointer (some ⟨t,0,none⟩),.string ⟨#[]⟩,.string ⟨#[47]⟩] w fun e w'=>e=.returned (.tuple #[.int .i64 1,.int .i64 0])∧w'=w:=by
 have hit:=ritem_any t w h
 clear h
 go_enter Tryz.func23,Tryz.ntmps23
 go_wp2_with fail
 refine (rparts_nil _).mono ?_
 rintro e wa ⟨rfl,rfl⟩
 go_wp2_with fail
 refine (rleads_none _ _).mono ?_
 rintro e wb ⟨rfl,rfl⟩
 go_wp2_with fail
 refine hit.mono ?_
 rintro e wd ⟨i,rfl,hc,rfl⟩
 go_wp2_with fail
 go_ret2
 exact ⟨rfl,rfl⟩
theorem rslash_one (w:World):Calls Tryz.prog 26 #[.string ⟨#[47]⟩] w fun e w'=>e=.returned (.bool true)∧w'=w:=by
 go_enter Tryz.func26,Tryz.ntmps26
 go_wp2_with fail
 go_ret
 exact ⟨rfl,rfl⟩
theorem rfind_any (t:Nat) (w:World) (h:RTr w t):Calls Tryz.prog 14 #[.pointer (some ⟨t,0,none⟩),.string ⟨#[]⟩,.string ⟨#[47]⟩] w fun e w'=>e=.returned (.tuple #[.int .i64 1,.int .i64 0])∧w'=w:=by
 have hit:=ritem_any t w h
 have hfr:=rfrom_any t w h
 clear h
 go_enter Tryz.func14,Tryz.ntmps14
 go_wp2_with fail
 refine hfr.mono ?_
 rintro e wa ⟨rfl,rfl⟩
 go_wp2_with fail
 refine (rparts_one _).mono ?_
 rintro e wb ⟨rfl,rfl⟩
 go_wp2_with fail
 refine (rleads_none _ _).mono ?_
 rintro e wd ⟨rfl,rfl⟩
 go_wp2_with fail
 refine (rslash_one _).mono ?_
 rintro e we ⟨rfl,rfl⟩
 go_wp2_with fail
 refine hit.mono ?_
 rintro e wf ⟨i,rfl,hc,rfl⟩
 go_wp2_with fail
 go_ret2
 exact ⟨rfl,rfl⟩
def mayB (buf line run:Int):Bool:=!(decide (buf < 1) || decide (line < 1) || decide (run < line) || decide (1099511627776 < buf) || decide (1099511627776 < run))
theorem rmay_any (pa:Option Addr) (na ca:Nat) (hna:1≤na) (buf line run:Int) (w:World) :
  Calls Tryz.prog 6 #[jobV (.slice pa na ca) (.slice none 0 0) buf line run] w fun e w'=>e=.returned (.bool (mayB buf line run))∧Below w.heap.size w w':=by
 obtain ⟨w0,hw0⟩:∃ w0,w.alloc (.cells #[.slice pa na ca,.slice none 0 0,.string ⟨#[]⟩,.slice none 0 0,.slice none 0 0,.int .i64 buf,.int .i64 line,.int .i64 run,.slice none 0 0,.int .i64 0,.slice none 0 0] 32)=w0:=⟨_,rfl⟩
 have hb0:Below w.heap.size w w0:=by rw [← hw0];exact (Below.refl _ _).alloc (Nat.le_refl _) _
 have hk0:Blk w0 w.heap.size #[.slice pa na ca,.slice none 0 0,.string ⟨#[]⟩,.slice none 0 0,.slice none 0 0,.int .i64 buf,.int .i64 line,.int .i64 run,.slice none 0 0,.int .i64 0,.slice none 0 0] 32:=by rw [← hw0];exact Blk.new _ _ _
 have j4:=hk0.cell 4 (v:=.slice none 0 0) rfl
 have HB0:=Lib.hid hb0
 have HK0:=Lib.hid hk0
 clear hb0 hk0
 have hA:decide ((na:Int) < 1)=false:=by simp;omega
 unfold jobV
 go_enter Tryz.func6,Tryz.ntmps6
 go_wp2_with fail
 try rw [hw0]
 refine (rload_none _ _).mono ?_
 rintro e w1 ⟨t,rfl,ht,hb⟩
 have hk1:=HK0.out.keep hb HK0.out.lt
 have e0:=hk1.cell 0 (v:=.slice pa na ca) rfl
 have e2:=hk1.cell 2 (v:=.string ⟨#[]⟩) rfl
 have e5:=hk1.cell 5 (v:=.int .i64 buf) rfl
 have e6:=hk1.cell 6 (v:=.int .i64 line) rfl
 have e7:=hk1.cell 7 (v:=.int .i64 run) rfl
 have e9:=hk1.cell 9 (v:=.int .i64 0) rfl
 have HT:=Lib.hid ht
 have HB:=Lib.hid (HB0.out.trans (hb.mono HB0.out.size))
 clear hk1 ht hb j4 hw0
 cases h1:decide (buf < 1) with
 | true=>
  have HM:Hid (mayB buf line run=false):=Lib.hid (by unfold mayB;rw [h1];rfl)
  go_wp2_with fail
  go_ret
  exact ⟨by rw [HM.out];rfl,HB.out⟩
 | false=>
  cases h2:decide (line < 1) with
  | true=>
   have HM:Hid (mayB buf line run=false):=Lib.hid (by unfold mayB;rw [h1,h2];rfl)
   go_wp2_with fail
   go_ret
   exact ⟨by rw [HM.out];rfl,HB.out⟩
  | false=>
   cases h3:decide (run < line) with
   | true=>
    have HM:Hid (mayB buf line run=false):=Lib.hid (by unfold mayB;rw [h1,h2,h3];rfl)
    go_wp2_with fail
    go_ret
    exact ⟨by rw [HM.out];rfl,HB.out⟩
   | false=>
    cases h4:decide (1099511627776 < buf) with
    | true=>
     have HM:Hid (mayB buf line run=false):=Lib.hid (by unfold mayB;rw [h1,h2,h3,h4];rfl)
     go_wp2_with fail
     go_ret
     exact ⟨by rw [HM.out];rfl,HB.out⟩
    | false=>
     cases h5:decide (1099511627776 < run) with
     | true=>
      have HM:Hid (mayB buf line run=false):=Lib.hid (by unfold mayB;rw [h1,h2,h3,h4,h5];rfl)
      go_wp2_with fail
      go_ret
      exact ⟨by rw [HM.out];rfl,HB.out⟩
     | false=>
      have HM:Hid (mayB buf line run=true):=Lib.hid (by unfold mayB;rw [h1,h2,h3,h4,h5];rfl)
      have hfi:=rfind_any t w1 HT.out
      have hit:=ritem_any t w1 HT.out
      go_wp2_with fail
      rw [show ((⟨#[47]⟩:ByteArray) ++ ⟨#[]⟩)=⟨#[47]⟩ from rfl]
      refine hfi.mono ?_
      rintro e wa ⟨rfl,rfl⟩
      clear hfi
      go_wp2_with fail
      refine hit.mono ?_
      rintro e wb ⟨i,rfl,hc,rfl⟩
      go_wp2_with fail
      go_ret
      exact ⟨by rw [HM.out];rfl,HB.out⟩
end Go.Proofs.YtefpcacnblaokaaGreatDoor

/-
  What the laws on sed hold in hand: results of runs in memory; what is told of the first lines. Conditions: those of each law.
-/
namespace Go.Proofs.YtefpcacnblaokaaGreatDoor
open Go.RowKit Go.Shelf Go.Maps
theorem mayB_false {buf line run:Int} (h:mayB buf line run=true):1≤buf∧1≤line∧line≤run∧buf≤1099511627776∧run≤1099511627776:=by
 unfold mayB at h
 simp at h
 omega
def ResAt (W:World) (g:Nat) (st:Int) (out:Bts):Prop:=∃ p c ev steps peak,Blk W g #[.slice p out.length c,ev,.int .i64 st,.slice none 0 0,.int .i64 steps,.int .i64 peak,.int .i64 0] 35∧Bs W p out
theorem ResAt.below {W W':World} {g:Nat} {st:Int} {out:Bts} (h:ResAt W g st out) (hb:Below W.heap.size W W'):ResAt W' g st out:=by
 obtain ⟨p,c,ev,steps,peak,h1,h2⟩:=h
 exact ⟨p,c,ev,steps,peak,h1.keep hb h1.lt,h2.below hb (Nat.le_refl _)⟩
theorem ResAt.status {W:World} {g:Nat} {st:Int} {out:Bts} (h:ResAt W g st out):W.cell? ⟨g,2,none⟩=some (.int .i64 st):=by
 obtain ⟨p,c,ev,steps,peak,h1,h2⟩:=h
 exact h1.cell 2 rfl
theorem ResAt.text {W:World} {g:Nat} {st:Int} {out:Bts} (h:ResAt W g st out):∃ p c,W.cell? ⟨g,0,none⟩=some (.slice p out.length c)∧(convert 22 9 (.slice p out.length c)).run Tryz.prog W=.ok (.string ⟨out.toArray⟩) W:=by
 obtain ⟨p,c,ev,steps,peak,h1,h2⟩:=h
 exact ⟨p,c,h1.cell 0 rfl,run_str h2 c⟩
theorem told_app (g:Nat→Bts→Bts):∀ (l m:List Bts) (n:Nat),Sd.told g n (l ++ m)=Sd.told g n l ++ Sd.told g (n+l.length) m:=by
 intro l
 induction l with
 | nil=>intro m n;rfl
 | cons x r ih=>
  intro m n
  rw [List.cons_append,Sd.told,Sd.told,ih,List.append_assoc,List.length_cons]
  rw [show n+1+r.length=n+(r.length+1) by omega]
theorem told_take (g:Nat→Bts→Bts) (l:List Bts) (i:Nat) (hi:i < l.length):Sd.told g 0 (l.take (i+1))=Sd.told g 0 (l.take i) ++ g (i+1) (l.getD i []):=by
 rw [List.take_succ_eq_append_getElem hi,told_app,List.length_take,Nat.min_eq_left (by omega)]
 simp [Sd.told,List.getD_eq_getElem?_getD,List.getElem?_eq_getElem hi]
theorem told_len (g:Nat→Bts→Bts) (hg:∀ n l,(g n l).length≤l.length+1):∀ (l:List Bts) (n:Nat),(Sd.told g n l).length≤(Sd.flat l).length:=by
 intro l
 induction l with
 | nil=>intro n;simp [Sd.told]
 | cons x r ih=>
  intro n
  have h1:=ih (n+1)
  have h2:=hg (n+1) x
  simp only [Sd.told,Sd.flat,List.flatMap_cons,List.length_append,List.length_cons,List.length_nil] at h1 ⊢
  omega
theorem flat_revtake (l:List Bts) (i:Nat) (hi:i < l.length):Sd.flat (l.drop i).reverse=Sd.flat (l.drop (i+1)).reverse ++ (l.getD i [] ++ [10]):=by
 rw [List.drop_eq_getElem_cons hi,List.reverse_cons]
 unfold Sd.flat
 rw [List.flatMap_append]
 simp [List.getD_eq_getElem?_getD,List.getElem?_eq_getElem hi]
theorem flat_revtake_len (l:List Bts) (i:Nat):(Sd.flat (l.drop i).reverse).length≤(Sd.flat l).length:=by
 have hr:∀ m:List Bts,(Sd.flat m.reverse).length=(Sd.flat m).length:=by
  intro m
  induction m with
  | nil=>rfl
  | cons x r ih=>
   rw [List.reverse_cons]
   unfold Sd.flat at ih ⊢
   rw [List.flatMap_append,List.length_append,ih]
   simp only [List.flatMap_cons,List.flatMap_nil,List.append_nil,List.length_append,List.length_cons,List.length_nil]
   omega
 rw [hr]
 conv=>rhs;rw [← List.take_append_drop i l]
 unfold Sd.flat
 rw [List.flatMap_append,List.length_append]
 omega
theorem flat_count:∀ l:List Bts,l.length≤(Sd.flat l).length:=by
 intro l
 induction l with
 | nil=>simp
 | cons x r ih=>
  simp only [Sd.flat,List.flatMap_cons,List.length_append,List.length_cons,List.length_nil] at ih ⊢
  omega
theorem resAt_new {W w2:World} {st:Int} {out:Bts} {p:Option Addr} {c:Nat} {ev:Value} {steps peak:Int} (h:w2.alloc (.cells #[.slice p out.length c,ev,.int .i64 st,.slice none 0 0,.int .i64 steps,.int .i64 peak,.int .i64 0] 35)=W) (hb:Bs w2 p out):ResAt W w2.heap.size st out∧Below w2.heap.size w2 W:=by
 have h1:Below w2.heap.size w2 W:=by rw [← h];exact (Below.refl _ _).alloc (Nat.le_refl _) _
 exact ⟨⟨p,c,ev,steps,peak,by rw [← h];exact Blk.new _ _ _,hb.below h1 (Nat.le_refl _)⟩,h1⟩
end Go.Proofs.YtefpcacnblaokaaGreatDoor
