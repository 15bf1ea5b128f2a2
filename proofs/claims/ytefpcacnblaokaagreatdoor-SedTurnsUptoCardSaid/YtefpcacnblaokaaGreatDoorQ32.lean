/-
  Texts of this seat put together: Sd41, M1, M2, M3, M4, R1, D1.
-/
import Derived.Test.YtefpcacnblaokaaGreatDoorQ31
import Derived.Test.YtefpcacnblaokaaGreatDoorQ7
import Derived.Tactics
import Derived.Tactics2
import Derived.Defers
import Derived.Recover
import Derived.Laws.Pointers
import Derived.Laws.EntriesVeiled
import Derived.Laws.IdiomRangeMap
import Derived.Maps.RangeRun

/-
  The walk of begun: a machine is made. Conditions: a process that runs; a script in memory; the names of the inputs in memory.
-/
set_option maxRecDepth 100000
set_option maxHeartbeats 16000000
namespace Go.Proofs.YtefpcacnblaokaaGreatDoor
open Go.RowKit Go.Shelf Go.Maps
theorem grown_belowM {b B:Nat} {w w':World} (h:w.grownBy w' (some b)) (hb:B≤b) (hw:B≤w.heap.size):Below B w w':=
 ⟨h.os,h.tape,h.output,h.size,fun k hk=>h.block k (by omega) (by simp;omega)⟩
theorem letters_made (w3:World) (mb:Nat):∃ w',w'.ownsMap Tryz.prog 5 (vElem mb) w3.heap.size 22 vData∧Below w3.heap.size w3 w'∧∃ (x1 x2 x3 x4 x5 x6 x7 x8 x9 x10 x11 x12 x13 x14 x15 x16 x17 x18 x19 x20 x21 w22:World),
 (Instr.mapUpdate 216 (.map (some w3.heap.size)) (.int .u8 123) (.func (.func 138) #[] #[])).run Tryz.prog (w3.alloc (.map #[] 0))=.ok () x1 ∧
 (Instr.mapUpdate 216 (.map (some w3.heap.size)) (.int .u8 58) (.func (.func 138) #[] #[])).run Tryz.prog x1=.ok () x2 ∧
 (Instr.mapUpdate 216 (.map (some w3.heap.size)) (.int .u8 61) (.func (.func 139) #[.pointer (some ⟨mb,0,none⟩)] #[])).run Tryz.prog x2=.ok () x3 ∧
 (Instr.mapUpdate 216 (.map (some w3.heap.size)) (.int .u8 97) (.func (.func 140) #[.pointer (some ⟨mb,0,none⟩)] #[])).run Tryz.prog x3=.ok () x4 ∧
 (Instr.mapUpdate 216 (.map (some w3.heap.size)) (.int .u8 105) (.func (.func 141) #[.pointer (some ⟨mb,0,none⟩)] #[])).run Tryz.prog x4=.ok () x5 ∧
 (Instr.mapUpdate 216 (.map (some w3.heap.size)) (.int .u8 99) (.func (.func 142) #[.pointer (some ⟨mb,0,none⟩)] #[])).run Tryz.prog x5=.ok () x6 ∧
 (Instr.mapUpdate 216 (.map (some w3.heap.size)) (.int .u8 100) (.func (.func 143) #[.pointer (some ⟨mb,0,none⟩)] #[])).run Tryz.prog x6=.ok () x7 ∧
 (Instr.mapUpdate 216 (.map (some w3.heap.size)) (.int .u8 68) (.func (.func 144) #[.pointer (some ⟨mb,0,none⟩)] #[])).run Tryz.prog x7=.ok () x8 ∧
 (Instr.mapUpdate 216 (.map (some w3.heap.size)) (.int .u8 103) (.func (.func 145) #[.pointer (some ⟨mb,0,none⟩)] #[])).run Tryz.prog x8=.ok () x9 ∧
 (Instr.mapUpdate 216 (.map (some w3.heap.size)) (.int .u8 71) (.func (.func 146) #[.pointer (some ⟨mb,0,none⟩)] #[])).run Tryz.prog x9=.ok () x10 ∧
 (Instr.mapUpdate 216 (.map (some w3.heap.size)) (.int .u8 104) (.func (.func 147) #[.pointer (some ⟨mb,0,none⟩)] #[])).run Tryz.prog x10=.ok () x11 ∧
 (Instr.mapUpdate 216 (.map (some w3.heap.size)) (.int .u8 72) (.func (.func 148) #[.pointer (some ⟨mb,0,none⟩)] #[])).run Tryz.prog x11=.ok () x12 ∧
 (Instr.mapUpdate 216 (.map (some w3.heap.size)) (.int .u8 120) (.func (.func 149) #[.pointer (some ⟨mb,0,none⟩)] #[])).run Tryz.prog x12=.ok () x13 ∧
 (Instr.mapUpdate 216 (.map (some w3.heap.size)) (.int .u8 110) (.func (.func 150) #[.pointer (some ⟨mb,0,none⟩)] #[])).run Tryz.prog x13=.ok () x14 ∧
 (Instr.mapUpdate 216 (.map (some w3.heap.size)) (.int .u8 78) (.func (.func 151) #[.pointer (some ⟨mb,0,none⟩)] #[])).run Tryz.prog x14=.ok () x15 ∧
 (Instr.mapUpdate 216 (.map (some w3.heap.size)) (.int .u8 112) (.func (.func 152) #[.pointer (some ⟨mb,0,none⟩)] #[])).run Tryz.prog x15=.ok () x16 ∧
 (Instr.mapUpdate 216 (.map (some w3.heap.size)) (.int .u8 80) (.func (.func 153) #[.pointer (some ⟨mb,0,none⟩)] #[])).run Tryz.prog x16=.ok () x17 ∧
 (Instr.mapUpdate 216 (.map (some w3.heap.size)) (.int .u8 113) (.func (.func 154) #[.pointer (some ⟨mb,0,none⟩)] #[])).run Tryz.prog x17=.ok () x18 ∧
 (Instr.mapUpdate 216 (.map (some w3.heap.size)) (.int .u8 98) (.func (.func 155) #[.pointer (some ⟨mb,0,none⟩)] #[])).run Tryz.prog x18=.ok () x19 ∧
 (Instr.mapUpdate 216 (.map (some w3.heap.size)) (.int .u8 116) (.func (.func 156) #[.pointer (some ⟨mb,0,none⟩)] #[])).run Tryz.prog x19=.ok () x20 ∧
 (Instr.mapUpdate 216 (.map (some w3.heap.size)) (.int .u8 121) (.func (.func 157) #[.pointer (some ⟨mb,0,none⟩)] #[])).run Tryz.prog x20=.ok () x21 ∧
 (Instr.mapUpdate 216 (.map (some w3.heap.size)) (.int .u8 115) (.func (.func 158) #[.pointer (some ⟨mb,0,none⟩)] #[])).run Tryz.prog x21=.ok () w22∧w22=w':=by
 have st:=fun (W:World) (n:Nat) (D:DataW Unit) (h:W.ownsMap Tryz.prog 5 (vElem mb) w3.heap.size n D) (hn:n < maxLen) (c:UInt8) (f:Nat)=>
  World.ownsMap.update h kU8 (t:=216) Tryz.underlying216 hn (key:=.int .u8 c.toNat) (val:=.func (.func f) #[.pointer (some ⟨mb,0,none⟩)] #[]) (kl:=.int .u8 c.toNat) (key_u8 c) (vElem_fn mb f)
 have st0:=fun (W:World) (n:Nat) (D:DataW Unit) (h:W.ownsMap Tryz.prog 5 (vElem mb) w3.heap.size n D) (hn:n < maxLen) (c:UInt8) (f:Nat)=>
  World.ownsMap.update h kU8 (t:=216) Tryz.underlying216 hn (key:=.int .u8 c.toNat) (val:=.func (.func f) #[] #[]) (kl:=.int .u8 c.toNat) (key_u8 c) (vElem_no mb f)
 have o0:=World.ownsMap_made w3 Tryz.prog 5 (vElem mb)
 have b0:Below w3.heap.size w3 (w3.alloc (.map #[] 0)):=(Below.refl _ _).alloc (Nat.le_refl _) _
 obtain ⟨x1,e1,o1,g1⟩:=st0 _ 0 _ o0 (by decide) 123 138
 have b1:Below w3.heap.size w3 x1:=b0.trans (grown_belowM g1 (Nat.le_refl _) b0.size)
 obtain ⟨x2,e2,o2,g2⟩:=st0 _ 1 _ o1 (by decide) 58 138
 have b2:Below w3.heap.size w3 x2:=b1.trans (grown_belowM g2 (Nat.le_refl _) b1.size)
 obtain ⟨x3,e3,o3,g3⟩:=st _ 2 _ o2 (by decide) 61 139
 have b3:Below w3.heap.size w3 x3:=b2.trans (grown_belowM g3 (Nat.le_refl _) b2.size)
 obtain ⟨x4,e4,o4,g4⟩:=st _ 3 _ o3 (by decide) 97 140
 have b4:Below w3.heap.size w3 x4:=b3.trans (grown_belowM g4 (Nat.le_refl _) b3.size)
 obtain ⟨x5,e5,o5,g5⟩:=st _ 4 _ o4 (by decide) 105 141
 have b5:Below w3.heap.size w3 x5:=b4.trans (grown_belowM g5 (Nat.le_refl _) b4.size)
 obtain ⟨x6,e6,o6,g6⟩:=st _ 5 _ o5 (by decide) 99 142
 have b6:Below w3.heap.size w3 x6:=b5.trans (grown_belowM g6 (Nat.le_refl _) b5.size)
 obtain ⟨x7,e7,o7,g7⟩:=st _ 6 _ o6 (by decide) 100 143
 have b7:Below w3.heap.size w3 x7:=b6.trans (grown_belowM g7 (Nat.le_refl _) b6.size)
 obtain ⟨x8,e8,o8,g8⟩:=st _ 7 _ o7 (by decide) 68 144
 have b8:Below w3.heap.size w3 x8:=b7.trans (grown_belowM g8 (Nat.le_refl _) b7.size)
 obtain ⟨x9,e9,o9,g9⟩:=st _ 8 _ o8 (by decide) 103 145
 have b9:Below w3.heap.size w3 x9:=b8.trans (grown_belowM g9 (Nat.le_refl _) b8.size)
 obtain ⟨x10,e10,o10,g10⟩:=st _ 9 _ o9 (by decide) 71 146
 have b10:Below w3.heap.size w3 x10:=b9.trans (grown_belowM g10 (Nat.le_refl _) b9.size)
 obtain ⟨x11,e11,o11,g11⟩:=st _ 10 _ o10 (by decide) 104 147
 have b11:Below w3.heap.size w3 x11:=b10.trans (grown_belowM g11 (Nat.le_refl _) b10.size)
 obtain ⟨x12,e12,o12,g12⟩:=st _ 11 _ o11 (by decide) 72 148
 have b12:Below w3.heap.size w3 x12:=b11.trans (grown_belowM g12 (Nat.le_refl _) b11.size)
 obtain ⟨x13,e13,o13,g13⟩:=st _ 12 _ o12 (by decide) 120 149
 have b13:Below w3.heap.size w3 x13:=b12.trans (grown_belowM g13 (Nat.le_refl _) b12.size)
 obtain ⟨x14,e14,o14,g14⟩:=st _ 13 _ o13 (by decide) 110 150
 have b14:Below w3.heap.size w3 x14:=b13.trans (grown_belowM g14 (Nat.le_refl _) b13.size)
 obtain ⟨x15,e15,o15,g15⟩:=st _ 14 _ o14 (by decide) 78 151
 have b15:Below w3.heap.size w3 x15:=b14.trans (grown_belowM g15 (Nat.le_refl _) b14.size)
 obtain ⟨x16,e16,o16,g16⟩:=st _ 15 _ o15 (by decide) 112 152
 have b16:Below w3.heap.size w3 x16:=b15.trans (grown_belowM g16 (Nat.le_refl _) b15.size)
 obtain ⟨x17,e17,o17,g17⟩:=st _ 16 _ o16 (by decide) 80 153
 have b17:Below w3.heap.size w3 x17:=b16.trans (grown_belowM g17 (Nat.le_refl _) b16.size)
 obtain ⟨x18,e18,o18,g18⟩:=st _ 17 _ o17 (by decide) 113 154
 have b18:Below w3.heap.size w3 x18:=b17.trans (grown_belowM g18 (Nat.le_refl _) b17.size)
 obtain ⟨x19,e19,o19,g19⟩:=st _ 18 _ o18 (by decide) 98 155
 have b19:Below w3.heap.size w3 x19:=b18.trans (grown_belowM g19 (Nat.le_refl _) b18.size)
 obtain ⟨x20,e20,o20,g20⟩:=st _ 19 _ o19 (by decide) 116 156
 have b20:Below w3.heap.size w3 x20:=b19.trans (grown_belowM g20 (Nat.le_refl _) b19.size)
 obtain ⟨x21,e21,o21,g21⟩:=st _ 20 _ o20 (by decide) 121 157
 have b21:Below w3.heap.size w3 x21:=b20.trans (grown_belowM g21 (Nat.le_refl _) b20.size)
 obtain ⟨w22,e22,o22,g22⟩:=st _ 21 _ o21 (by decide) 115 158
 have b22:Below w3.heap.size w3 w22:=b21.trans (grown_belowM g22 (Nat.le_refl _) b21.size)
 exact ⟨w22,o22,b22,x1,x2,x3,x4,x5,x6,x7,x8,x9,x10,x11,x12,x13,x14,x15,x16,x17,x18,x19,x20,x21,w22,e1,e2,e3,e4,e5,e6,e7,e8,e9,e10,e11,e12,e13,e14,e15,e16,e17,e18,e19,e20,e21,e22,rfl⟩
theorem begun_any (F:Fx) (M S:Nat→Prop) (W0:World) (inp:Bts) (lv:Value) (qs:List Nat) (cs:List Sd.Cmd) (quiet:Bool) (g cn:Nat) (w:World) (h:PrAt w F M inp [] []) (hb0:Below W0.heap.size W0 w) (hM:∀ j,M j→j < W0.heap.size) (hn0:F.n0≤W0.heap.size)
  (hs:ScrAt w S lv cs qs) (hS:∀ j,S j→W0.heap.size≤j∧j < w.heap.size) (hg:w.cell? ⟨g,0,none⟩=some (.string ⟨#[45]⟩)) (hg0:W0.heap.size≤g) (hgS:¬ S g) (hcn:1≤cn) (hin:inp.length≤100000) :
  Calls Tryz.prog 92 #[.pointer (some ⟨F.p,0,none⟩),lv,.bool quiet,.slice (some ⟨g,0,none⟩) 1 cn] w fun e w'=>∃ m:Mfx,e=.returned (.pointer (some ⟨m.mb,0,none⟩))∧m.cs=cs∧m.quiet=quiet∧m.W0=W0∧m.M0=M∧Mst w' F m (Sd.begun cs inp):=by
 have hlvs:∃ p c,lv=.slice p cs.length c:=by
  obtain ⟨B,hr⟩:=hs.row
  rcases hr.2 with ⟨e,e2⟩ | ⟨g,cap,cs,e,-⟩
  ·exact ⟨_,_,by rw [e,e2]⟩
  ·exact ⟨_,_,e⟩
 obtain ⟨pl,cl,rfl⟩:=hlvs
 have hmm:=@run_makeMap Tryz.prog
 obtain ⟨w1,hw1⟩:∃ w1,w.alloc (.cells #[.pointer (some ⟨F.p,0,none⟩),.slice (some ⟨g,0,none⟩) 1 cn,.string ⟨#[]⟩,.pointer none,.int .i64 0,.slice none 0 0,.bool false] 213)=w1:=⟨_,rfl⟩
 obtain ⟨w2,hw2⟩:∃ w2,w1.alloc (.map #[] 0)=w2:=⟨_,rfl⟩
 obtain ⟨w3,hw3⟩:∃ w3,w2.alloc (.cells #[.pointer (some ⟨F.p,0,none⟩),.pointer (some ⟨w.heap.size,0,none⟩),.slice pl cs.length cl,.map (some (w.heap.size+1)),.map none,.bool quiet,.int .i64 0,.slice none 0 0,.slice none 0 0,.bool false,.int .i64 0,.string ⟨#[]⟩,.bool false,.int .i64 0,.pointer none,.bool false,.bool false] 218)=w3:=⟨_,rfl⟩
 have z1:w1.heap.size=w.heap.size+1:=by rw [← hw1];simp
 have z2:w2.heap.size=w.heap.size+1+1:=by rw [← hw2,World.size_alloc,z1]
 have z3:w3.heap.size=w.heap.size+1+1+1:=by rw [← hw3,World.size_alloc,z2]
 have b1:Below w.heap.size w w1:=by rw [← hw1];exact (Below.refl _ _).alloc (Nat.le_refl _) _
 have b2:Below w1.heap.size w1 w2:=by rw [← hw2];exact (Below.refl _ _).alloc (Nat.le_refl _) _
 have b3:Below w2.heap.size w2 w3:=by rw [← hw3];exact (Below.refl _ _).alloc (Nat.le_refl _) _
 have k1:Blk w1 w.heap.size #[.pointer (some ⟨F.p,0,none⟩),.slice (some ⟨g,0,none⟩) 1 cn,.string ⟨#[]⟩,.pointer none,.int .i64 0,.slice none 0 0,.bool false] 213:=by rw [← hw1];exact Blk.new _ _ _
 have k2:w2.heap[w.heap.size+1]?=some (.map #[] 0):=by rw [← hw2,← z1];exact heap_alloc_new w1 _
 have k3:=Blk.new w2 #[.pointer (some ⟨F.p,0,none⟩),.pointer (some ⟨w.heap.size,0,none⟩),.slice pl cs.length cl,.map (some (w.heap.size+1)),.map none,.bool quiet,.int .i64 0,.slice none 0 0,.slice none 0 0,.bool false,.int .i64 0,.string ⟨#[]⟩,.bool false,.int .i64 0,.pointer none,.bool false,.bool false] 218
 rw [hw3,z2] at k3
 obtain ⟨w4,ho,hb4,x1,x2,x3,x4,x5,x6,x7,x8,x9,x10,x11,x12,x13,x14,x15,x16,x17,x18,x19,x20,x21,w22,e1,e2,e3,e4,e5,e6,e7,e8,e9,e10,e11,e12,e13,e14,e15,e16,e17,e18,e19,e20,e21,e22,e23⟩:=letters_made w3 (w.heap.size+1+1)
 subst e23
 have k4:=Blk.keep k3 hb4 (by omega)
 have c4:=Blk.cell k4 4 (v:=.map none) rfl
 have f4:=Blk.free k4 4
 have fin:∃ m:Mfx,m.mb=w.heap.size+1+1∧m.cs=cs∧m.quiet=quiet∧m.W0=W0∧m.M0=M∧Mst (w22.setCell ⟨w.heap.size+1+1,4,none⟩ (.map (some w3.heap.size))) F m (Sd.begun cs inp):=by
  have hb:Below w.heap.size w w22:=b1.trans ((b2.trans ((b3.trans (hb4.mono (by omega))).mono (by omega))).mono (by omega))
  have b23:Below w2.heap.size w2 w22:=b3.trans (hb4.mono (by omega))
  have b13:Below w1.heap.size w1 w22:=b2.trans (b23.mono (by omega))
  obtain ⟨w5,hw5⟩:∃ w5,w22.setCell ⟨w.heap.size+1+1,4,none⟩ (.map (some w3.heap.size))=w5:=⟨_,rfl⟩
  have hk5:Kept (fun j=>j=w.heap.size+1+1) w22 w5:=by rw [← hw5];exact (Kept.refl (fun j=>j=w.heap.size+1+1) w22).setCell (.inl rfl) 4 _
  have kb:=Blk.set k4 4 (.map (some w3.heap.size))
  rw [hw5] at kb ⊢
  have hsz:=hb.size
  have hsz0:=hb0.size
  have hgl:g < w.heap.size:=World.block_lt_of_cell? _ _ hg
  have ki:Blk w5 w.heap.size #[.pointer (some ⟨F.p,0,none⟩),.slice (some ⟨g,0,none⟩) 1 cn,.string ⟨#[]⟩,.pointer none,.int .i64 0,.slice none 0 0,.bool false] 213:=Blk.kept (Blk.keep k1 b13 (by omega)) hk5 (by omega)
  have km:w5.heap[w.heap.size+1]?=some (.map #[] 0):=((hk5.block _ (by have:=hb4.size;omega) (by omega)).trans (b23.block _ (by omega))).trans k2
  have hbw:Below w.heap.size w w5:=by
   rw [← hw5]
   exact hb.setCell (by simp;omega) _
  have hb00:Below W0.heap.size W0 w5:=hb0.trans (hbw.mono hb0.size)
  have hpr:PrAt w5 F M inp [] []:=h.below hbw
  have hz5:w5.heap.size=w22.heap.size:=by rw [← hw5];simp [World.setCell]
  have hz4:=hb4.size
  have hmv:=ho.lt
  refine ⟨⟨w.heap.size+1+1,w.heap.size,w.heap.size+1,w3.heap.size,.slice pl cs.length cl,qs,cs,quiet,S,W0,M⟩,rfl,rfl,rfl,rfl,rfl,fun j=>S j∨j=w.heap.size+1+1∨j=w.heap.size+1∨j=w3.heap.size,M,2,⟨0,.slice none 0 0,.slice none 0 0,false,0,false,0,.pointer none,false,false⟩,none,⟨kb, ?_,hs.kept (Kept.of_below (S:=fun _=>False) hbw) fun _ _ h=>h,owns_of_block ho (hk5.block _ ho.lt (by show ¬ w3.heap.size=w.heap.size+1+1;omega)),⟨0,km⟩,fun _ h=>.inl h,⟨.inr (.inl rfl),.inr (.inr (.inl rfl)),.inr (.inr (.inr rfl))⟩,⟨?_, ?_, ?_⟩,⟨?_, ?_, ?_⟩,Kept.of_below hb00, ?_⟩,Sl.nil _ _,Sl.nil _ _,rfl,rfl,rfl,rfl,rfl, ?_,⟨by decide,by decide⟩, ?_, ?_, ?_, ?_, ?_⟩
  ·refine ⟨.inl ⟨rfl,rfl,⟨g,cn,ki,hcn,(World.cell?_of_block (hbw.block g hgl)).trans hg,fun e=>by have:=hM g e;omega,by show ¬ g=w.heap.size;omega,fun e=>?_⟩,M,fun _ h=>h,hpr⟩,⟨fun e=>by have h9:=hM _ e;change w.heap.size < _ at h9;omega,by show F.n0≤w.heap.size;omega⟩,fun j hj=>by have:=hM j hj;omega,h.fix.oldW,fun j hj=>?_⟩
   ·rcases e with e | e | e | e
    ·exact hgS e
    ·omega
    ·omega
    ·omega
   ·have h2:W0.heap.size≤j∧j < w5.heap.size∧j≠w.heap.size:=by
     rcases hj with e | e | e | e
     ·have:=hS j e;exact ⟨this.1,by omega,by omega⟩
     ·subst e;exact ⟨by omega,by omega,by omega⟩
     ·subst e;exact ⟨by omega,by omega,by omega⟩
     ·subst e;exact ⟨by omega,by omega,by omega⟩
    exact ⟨by omega,fun e=>by have:=hM j e;omega,h2.2.2,h2.2.1⟩
  ·exact fun e=>by have h9:=(hS _ e).2;change w.heap.size+1+1 < _ at h9;omega
  ·exact fun e=>by have h9:=(hS _ e).2;change w.heap.size+1 < _ at h9;omega
  ·exact fun e=>by have h9:=(hS _ e).2;change w3.heap.size < _ at h9;omega
  ·show ¬ w.heap.size+1+1=w.heap.size+1
   omega
  ·show ¬ w.heap.size+1+1=w3.heap.size
   omega
  ·show ¬ w.heap.size+1=w3.heap.size
   omega
  ·intro j hj
   rcases hj with e | e | e
   ·exact .inl e
   ·refine .inr ?_
    show W0.heap.size≤j
    rcases e with e | e | e | e
    ·exact (hS j e).1
    ·omega
    ·omega
    ·omega
   ·refine .inr ?_
    show W0.heap.size≤j
    have e2:j=w.heap.size:=e
    omega
  ·show (0:Int)=opV ((cs.map fun _=>false))
   unfold opV
   cases cs with
   | nil=>rfl
   | cons x r=>rfl
  ·show 0+inp.length≤100000
   omega
  ·exact Nat.zero_le _
  ·exact Nat.zero_le _
  ·exact Nat.zero_le _
  ·exact Nat.zero_le _
 have FIN:=Lib.hid fin
 have HW1:=Lib.hid hw1
 have HW2:=Lib.hid hw2
 have HW3:=Lib.hid hw3
 clear fin ho hb4 k1 k2 k3 k4 b1 b2 b3 h hb0 hM hn0 hs hS hg hg0 hgS hw1 hw2 hw3 z1 z2 z3
 go_enter Tryz.func92,Tryz.ntmps92
 go_upto_region 3 with fail
 rw [HW1.out,HW2.out,HW3.out]
 go_wp2_with fail
 go_ret
 obtain ⟨m,hmb,h1,h2,h3,h4,h5⟩:=FIN.out
 exact ⟨m,by rw [hmb];rfl,h1,h2,h3,h4,h5⟩
end Go.Proofs.YtefpcacnblaokaaGreatDoor

/-
  The walks of proc.Go, of attempt and its deferred closure. Condition on main: what it comes to.
-/
set_option maxRecDepth 100000
set_option maxHeartbeats 4000000
namespace Go.Proofs.YtefpcacnblaokaaGreatDoor
open Go.RowKit Go.Shelf Go.Maps
def MachAt (W:World) (mb p g:Nat) (done:Bool) (st:Int):Prop:=Blk W mb #[.pointer (some ⟨p,0,none⟩),.func (.func g) #[] #[],.bool done,.int .i64 st] 121
theorem go_any (F:Fx) (M:Nat→Prop) (inp out err:Bts) (g:Nat) (w:World) (h:PrAt w F M inp out err) :
  Calls Tryz.prog 51 #[.pointer (some ⟨F.p,0,none⟩),.func (.func g) #[] #[]] w fun e w'=>e=.returned (.pointer (some ⟨w.heap.size,0,none⟩))∧MachAt w' w.heap.size F.p g false 0∧Below w.heap.size w w':=by
 obtain ⟨hd,pk,st,hp⟩:=h.proc
 have c13:=new_cell (hp.cell 13 (v:=.bool true) rfl) (.cells #[.pointer (some ⟨F.p,0,none⟩),.func (.func g) #[] #[],.bool false,.int .i64 0] 121)
 clear h hp
 go_enter Tryz.func51,Tryz.ntmps51
 go_wp2_with fail
 go_ret
 exact ⟨rfl,Blk.new _ _ _,(Below.refl _ _).alloc (Nat.le_refl _) _⟩
theorem attempt_idle (p q:Addr) (w:World) :
  CallsD Tryz.prog 117 #[.pointer (some p),.pointer (some q)] .returning w fun e u' w'=>e=.returned (.tuple #[])∧u'=.returning∧w'=w:=by
 refine callsD_of_wpS Tryz.func117 rfl fun c₀ cs hu=>?_
 apply wpS_seq
 apply wpS_region
 simp [wpOpsS,go_sem,recoverD,hu,Tryz.ntmps117,Exit.thenS]
 refine wpS_of_wp ?_
 change Code.wp _ _ _ { tmps:=#[.pointer (some p),.pointer (some q),undef,undef,undef,undef,.nilIface,undef,undef,undef,undef,undef,undef,undef,undef,undef,undef,undef],defers:=[] } _
 go_wp2_with fail
 cases c₀
 simp_all [bodyPostS,results,Tryz.results117]
end Go.Proofs.YtefpcacnblaokaaGreatDoor

/-
  The walk of attempt. Condition on main: what it comes to.
-/
set_option maxRecDepth 100000
set_option maxHeartbeats 4000000
namespace Go.Proofs.YtefpcacnblaokaaGreatDoor
open Go.RowKit Go.Shelf Go.Maps
theorem attempt_any (F:Fx) (M:Nat→Prop) (inp out err:Bts) (g mb:Nat) (st0:Int) (w:World) (h:PrAt w F M inp out err) (hmb:MachAt w mb F.p g false st0) (hn0:F.n0≤mb) (hM:¬ M mb)
  (hent:∀ (args:Array Value) (w:World),(callFunc g args).run Tryz.prog w=.ok (.enter g args) w) (Q:Int→Bts→Bts→Prop)
  (hmain:∀ W,PrAt W F M inp out err→Calls Tryz.prog g #[.pointer (some ⟨F.p,0,none⟩)] W fun e W'=>∃ st inp' out' err' M',e=.returned (.int .i64 st)∧PrAt W' F M' inp' out' err'∧Mv M M' W W'∧Q st out' err') :
  Calls Tryz.prog 80 #[.pointer (some ⟨mb,0,none⟩)] w fun e w'=>e=.returned (.bool true)∧∃ st inp' out' err' M',PrAt w' F M' inp' out' err'∧MachAt w' mb F.p g false st∧MvR M M' mb w w'∧Q st out' err':=by
 have hmf:∀ (fn:Fn) (first cap:Array Value) (w:World),(Instr.makeFunc fn first cap).run Tryz.prog w=.ok (.func fn first cap) w:=fun _ _ _ _=>rfl
 obtain ⟨w1,hw1⟩:∃ w1,(w.alloc (.cells #[.pointer (some ⟨mb,0,none⟩)] 117)).alloc (.cells #[.bool false] 4)=w1:=⟨_,rfl⟩
 have hb1:Below w.heap.size w w1:=by rw [← hw1];exact ((Below.refl _ _).alloc (Nat.le_refl _) _).alloc (by simp) _
 have hs1:w1.heap.size=w.heap.size+1+1:=by rw [← hw1];simp
 have k0:Blk w1 w.heap.size #[.pointer (some ⟨mb,0,none⟩)] 117:=by rw [← hw1];exact (Blk.new _ _ _).alloc _
 have k1:Blk w1 (w.heap.size+1) #[.bool false] 4:=by
  rw [← hw1]
  have:=Blk.new (w.alloc (.cells #[.pointer (some ⟨mb,0,none⟩)] 117)) #[.bool false] 4
  simpa only [World.size_alloc] using this
 have hmlt:=hmb.lt
 have hm1:MachAt w1 mb F.p g false st0:=hmb.keep hb1 hmlt
 have hnew:∀ k,w.heap.size≤k→¬ M k:=fun k hk e=>by have:=h.lt k e;omega
 have a0:=k0.cell 0 (v:=.pointer (some ⟨mb,0,none⟩)) rfl
 have a1:=hm1.cell 0 (v:=.pointer (some ⟨F.p,0,none⟩)) rfl
 have a2:=hm1.cell 1 (v:=.func (.func g) #[] #[]) rfl
 have HMAIN:=Lib.hid (hmain w1.drew ((h.below hb1).below (below_drew2 w1)))
 have H:=Lib.hid h
 have HB1:=Lib.hid hb1
 have HK1:=Lib.hid k1
 have HK0:=Lib.hid k0
 have HMB:=Lib.hid hm1
 have HNEW:=Lib.hid hnew
 clear h hb1 k0 k1 hm1 hmb hmain hnew
 go_enter_defers Tryz.func80,Tryz.ntmps80
 go_wp2_with fail
 try rw [hw1]
 clear hw1
 go_region_held3 (fun w'=>w'.cell? ⟨w.heap.size,0,none⟩=some (.pointer (some ⟨mb,0,none⟩))∧w'.cell? ⟨mb,0,none⟩=some (.pointer (some ⟨F.p,0,none⟩))∧w'.cell? ⟨mb,1,none⟩=some (.func (.func g) #[] #[])) (first | go_keep | exact HS.out | exact HS2.out)
  ((go_at_fn g;refine HMAIN.out.mono ?_;rintro e w4 ⟨st,inp',out',err',M',rfl,hp4,hm4,hq⟩;have hK:=(Kept.of_below (S:=M) (below_drew2 w1)).trans hm4.kept;have hmb4:MachAt w4 mb F.p g false st0:=Blk.kept HMB.out hK hM;have hk4:=HK0.out.kept hK (HNEW.out _ (Nat.le_refl _));have HS:=Lib.hid (show w4.cell? ⟨w.heap.size,0,none⟩=some (.pointer (some ⟨mb,0,none⟩))∧w4.cell? ⟨mb,0,none⟩=some (.pointer (some ⟨F.p,0,none⟩))∧w4.cell? ⟨mb,1,none⟩=some (.func (.func g) #[] #[]) from ⟨hk4.cell 0 rfl,hmb4.cell 0 rfl,hmb4.cell 1 rfl⟩);have hmb5:MachAt (w4.setCell ⟨mb,3,none⟩ (.int .i64 st)) mb F.p g false st:=Blk.set hmb4 3 _;have hne:w.heap.size≠mb:=(by omega);have hk5:=hk4.setOther (a:=⟨mb,3,none⟩) hne (.int .i64 st);have HS2:=Lib.hid (show (w4.setCell ⟨mb,3,none⟩ (.int .i64 st)).cell? ⟨w.heap.size,0,none⟩=some (.pointer (some ⟨mb,0,none⟩))∧(w4.setCell ⟨mb,3,none⟩ (.int .i64 st)).cell? ⟨mb,0,none⟩=some (.pointer (some ⟨F.p,0,none⟩))∧(w4.setCell ⟨mb,3,none⟩ (.int .i64 st)).cell? ⟨mb,1,none⟩=some (.func (.func g) #[] #[]) from ⟨hk5.cell 0 rfl,hmb5.cell 0 rfl,hmb5.cell 1 rfl⟩);have m3:=hmb4.cell 3 (v:=.int .i64 st0) rfl;have mf3:=hmb4.free 3;have HP4:=Lib.hid hp4;have HM4:=Lib.hid hm4;have HQ:=Lib.hid hq;have HMB5:=Lib.hid hmb5;have HKK:=Lib.hid hK;clear hp4 hm4 hq hmb4 hmb5 hk4 hk5 hK))
 obtain ⟨w5,hw5⟩:∃ w5,w4.setCell ⟨mb,3,none⟩ (.int .i64 st)=w5:=⟨_,rfl⟩
 have hk5:Kept (fun j=>j=mb) w4 w5:=by rw [← hw5];exact (Kept.refl (fun j=>j=mb) _).setCell (.inl rfl) 3 _
 have hm5:MachAt w5 mb F.p g false st:=by rw [← hw5];exact HMB5.out
 rw [hw5]
 have hk45:=(HK1.out.kept HKK.out (HNEW.out _ (by omega))).kept hk5 (by omega)
 have hM':¬ M' mb:=HM4.out.not (by have:=HMB.out.lt;simpa using this) hM
 have hp5:PrAt w5 F M' inp' out' err':=HP4.out.kept hk5 fun j hj=>by subst hj;exact ⟨hn0,hM'⟩
 have o1:=hk45.cell 0 (v:=.bool false) rfl
 have of1:=hk45.free 0
 have hlast:=hk45.set 0 (.bool true)
 have hk6:Kept (fun j=>j=w.heap.size+1) w5 (w5.setCell ⟨w.heap.size+1,0,none⟩ (.bool true)):=(Kept.refl (fun j=>j=w.heap.size+1) _).setCell (.inl rfl) 0 _
 have hm1':∀ k,w.heap.size≤k→k < w1.heap.size→¬ M' k:=fun k hk hk2=>HM4.out.not (by simpa using hk2) (HNEW.out k hk)
 have hp6:=hp5.kept hk6 fun j hj=>by subst hj;exact ⟨by omega,hm1' _ (by omega) (by omega)⟩
 have hm6:MachAt _ mb F.p g false st:=Blk.kept hm5 hk6 (by omega)
 have hmv:MvR M M' mb w (w5.setCell ⟨w.heap.size+1,0,none⟩ (.bool true)):=by
  have h1:Kept (fun j=>M j∨j=mb) w w4:=(Kept.of_below HB1.out).trans (HKK.out.mono fun _ _ h=>.inl h)
  have h2:Kept (fun j=>M j∨j=mb) w w5:=h1.trans (hk5.mono fun _ _ h=>.inr h)
  exact ⟨h2.trans' hk6 fun k hk e=>by omega,fun j hj=>by
   rcases HM4.out.new j hj with h | h
   ·exact .inl h
   ·have:w1.heap.size≤j:=h
    exact .inr (by omega)⟩
 have HP6:=Lib.hid hp6
 have HM6:=Lib.hid hm6
 have HMV:=Lib.hid hmv
 have c6:=hlast.cell 0 (v:=.bool true) rfl
 have HC6:=Lib.hid c6
 clear hw5 hk5 hm5 hk45 hM' hp5 hlast hk6 hm1' hp6 hm6 hmv c6 HMB5 HS HS2 HP4 HM4 m3 mf3
 go_wp2_with fail
 refine leaves_cons (f:=117) (args:=#[.pointer (some ⟨w.heap.size+1,0,none⟩),.pointer (some ⟨w.heap.size,0,none⟩)]) (by simp) (by simp [go_sem]) ?_
 refine (attempt_idle ⟨w.heap.size+1,0,none⟩ ⟨w.heap.size,0,none⟩ _).mono ?_
 rintro e u' w9 ⟨rfl,rfl,rfl⟩
 refine ⟨.bool true,by simp [results,Tryz.results80,go_sem,HC6.out], ?_⟩
 exact ⟨rfl,st,inp',out',err',M',HP6.out,HM6.out,HMV.out,HQ.out⟩
end Go.Proofs.YtefpcacnblaokaaGreatDoor

/-
  The walk of Table.Free. Condition: the table has a source and two sinks.
-/
set_option maxRecDepth 100000
set_option maxHeartbeats 4000000
namespace Go.Proofs.YtefpcacnblaokaaGreatDoor
open Go.RowKit Go.Shelf Go.Maps
def tv (i j:Nat) (v:Value):Value:=if j < i then .nilIface else v
theorem free_any (tb k s0 s1 s2:Nat) (w:World) (ht:TabAt w tb k (thV 173 s0) (thV 177 s1) (thV 177 s2)) :
  Calls Tryz.prog 118 #[.pointer (some ⟨tb,0,none⟩)] w fun e w'=>(∃ v,e=.returned v)∧TabAt w' tb k .nilIface .nilIface .nilIface∧Kept (fun j=>j=tb) w w':=by
 have hf:=fds_any tb k _ _ _ _ _ _ w ht
 have htlt:=ht.lt
 have HT:=Lib.hid ht
 clear ht
 go_enter Tryz.func118,Tryz.ntmps118
 go_wp2_with fail
 refine hf.mono ?_
 rintro e w1 ⟨v,rfl,hown,hb1⟩
 obtain ⟨g,c,rfl⟩:=own_slice (n:=2) hown
 have hg:w.heap.size≤g∧g < w1.heap.size:=hown.lt g rfl
 have e0:=hown.cellAt 0 (by decide)
 have e1:=hown.cellAt 1 (by decide)
 have e2:=hown.cellAt 2 (by decide)
 have ht1:=HT.out.keep hb1 htlt
 have HT1:=Lib.hid ht1
 have HB1:=Lib.hid hb1
 clear hf hown ht1 hb1
 have HC:Hid (w1.cell? ⟨g,0,none⟩=some (.int .i64 0)∧w1.cell? ⟨g,1,none⟩=some (.int .i64 1)∧w1.cell? ⟨g,2,none⟩=some (.int .i64 2)):=Lib.hid ⟨e0,e1,e2⟩
 clear e0 e1 e2
 go_wp2_with fail
 go_loopw [3,7] (fun _x3 i wr=>∃ n:Nat,n≤3∧i=.int .i64 n∧Hid (TabAt wr tb k (tv n 0 (thV 173 s0)) (tv n 1 (thV 177 s1)) (tv n 2 (thV 177 s2)))∧Hid (Kept (fun j=>j=tb) w1 wr)) (fun _ i _=>3 - (intOf i).toNat)
 case atStart=>exact ⟨0,by decide,rfl,HT1,Lib.hid (Kept.refl _ _)⟩
 case round=>
  obtain ⟨n,hn,rfl,htr,hkr⟩:=hrel
  have hgt:g≠tb:=by omega
  have hcr:∀ j v,w1.cell? ⟨g,j,none⟩=some v→wr.cell? ⟨g,j,none⟩=some v:=fun j v hv=>(World.cell?_of_block (hkr.out.block g hg.2 hgt)).trans hv
  obtain ⟨d0,d1,d2⟩:=HC.out
  have c0:=hcr 0 _ d0
  have c1:=hcr 1 _ d1
  have c2:=hcr 2 _ d2
  clear hcr d0 d1 d2
  obtain rfl | rfl | rfl | rfl:n=0∨n=1∨n=2∨n=3:=by omega
  ·have hs:=setNil_any tb k 0 (by decide) _ (.inl rfl) s0 wr (htr.out.cell 0 rfl) (htr.out.cell 1 rfl) (htr.out.free 1)
   go_wp2_with fail
   refine hs.mono ?_
   rintro e w2 ⟨⟨u,rfl⟩,rfl⟩
   go_wp2_with fail
   go_roundw
   case rel=>exact ⟨1,by decide,by go_num,Lib.hid (htr.out.set 1 .nilIface),Lib.hid (hkr.out.setCell (.inl rfl) 1 _)⟩
   case measure=>simp [intOf]
  ·have hs:=setNil_any tb k 1 (by decide) _ (.inr rfl) s1 wr (htr.out.cell 0 rfl) (htr.out.cell 2 rfl) (htr.out.free 2)
   go_wp2_with fail
   refine hs.mono ?_
   rintro e w2 ⟨⟨u,rfl⟩,rfl⟩
   go_wp2_with fail
   go_roundw
   case rel=>exact ⟨2,by decide,by go_num,Lib.hid (htr.out.set 2 .nilIface),Lib.hid (hkr.out.setCell (.inl rfl) 2 _)⟩
   case measure=>simp [intOf]
  ·have hs:=setNil_any tb k 2 (by decide) _ (.inr rfl) s2 wr (htr.out.cell 0 rfl) (htr.out.cell 3 rfl) (htr.out.free 3)
   go_wp2_with fail
   refine hs.mono ?_
   rintro e w2 ⟨⟨u,rfl⟩,rfl⟩
   go_wp2_with fail
   go_roundw
   case rel=>exact ⟨3,by decide,by go_num,Lib.hid (htr.out.set 3 .nilIface),Lib.hid (hkr.out.setCell (.inl rfl) 3 _)⟩
   case measure=>simp [intOf]
  ·go_wp2_with fail
   refine bodyPost_end (results_none rfl _ _ _) rfl ⟨⟨_,rfl⟩,htr.out,(Kept.of_below HB1.out).trans hkr.out⟩
end Go.Proofs.YtefpcacnblaokaaGreatDoor

/-
  The walks of ended and goOn. Condition on main: what it comes to.
-/
set_option maxRecDepth 100000
set_option maxHeartbeats 4000000
namespace Go.Proofs.YtefpcacnblaokaaGreatDoor
open Go.RowKit Go.Shelf Go.Maps
structure EndAt (W:World) (F:Fx) (out err:Bts):Prop where
 tree:TreeAt W F.t F.r F.a F.b
 kern:KernAt W F.k F.t ((2+1:Nat):Int) F.m
 things:W.ownsMap Tryz.prog 3 thElem F.m 3 (thD3 F)
 snk:∃ v1 v2,Blk W F.s1 #[v1] 178∧Blk W F.s2 #[v2] 178∧W.ownsRow 0 5 1 v1 out.length (out.map u8V)∧W.ownsRow 0 5 1 v2 err.length (err.map u8V)
 proc:∃ held peak steps:Int,∃ may:Bool,ProcAt W F.p F.k F.tb F.av F.buf F.line F.run held peak may true steps F.al
theorem PrAt.ends {W W':World} {F:Fx} {M S:Nat→Prop} {inp out err:Bts} (h:PrAt W F M inp out err) (hk:Kept S W W') (hS:∀ j,S j→j=F.tb∨(F.n0≤j∧¬ M j)):EndAt W' F out err:=by
 obtain ⟨hf,-,⟨v1,v2,b1,b2,o1,o2,d1,d2⟩,⟨hd,pk,st,hp⟩,mp,m0,m1,m2,di,lt,n0,li,bg⟩:=h
 have hM:∀ j,M j→¬ S j:=fun j hj hs=>by
  rcases hS j hs with h | h
  ·exact hf.oldTb.2 (h ▸ hj)
  ·exact h.2 hj
 have hO:∀ j,j < F.n0→j≠F.tb→¬ S j:=fun j hj hne hs=>by
  rcases hS j hs with h | h
  ·exact hne h
  ·omega
 have hne:∀ {b:Nat} {cs:Array Value} {t:TypeId},Blk W b cs t→t≠166→b≠F.tb:=fun hb ht e=>by
  subst e
  have h2:W.heap[F.tb]?=some (.cells _ 166 (0,0)):=hf.tab
  rw [hb] at h2
  injection h2 with h2
  injection h2 with _ h2
  exact ht h2
 have hne2:∀ {b:Nat} {es:Array MapEntry} {c:Nat},W.heap[b]?=some (.map es c)→b≠F.tb:=fun hb e=>by
  subst e
  have h2:W.heap[F.tb]?=some (.cells _ 166 (0,0)):=hf.tab
  rw [hb] at h2
  injection h2 with h2
  cases h2
 refine ⟨⟨hf.tree.1.kept hk (hO _ hf.oldT.1 (hne hf.tree.1 (by decide))),hf.tree.2.1.kept hk (hO _ hf.oldR.1 (hne hf.tree.2.1 (by decide))),(hk.block _ (lt_of_heap hf.tree.2.2.1) (hO _ hf.oldA.1 (hne2 hf.tree.2.2.1))).trans hf.tree.2.2.1,(hk.block _ (lt_of_heap hf.tree.2.2.2) (hO _ hf.oldB.1 (hne2 hf.tree.2.2.2))).trans hf.tree.2.2.2⟩,Blk.kept hf.kern hk (hO _ hf.oldK.1 (hne hf.kern (by decide))),map_same hf.things (hk.block _ hf.things.lt (hO _ hf.oldM.1 ?_)),⟨v1,v2,b1.kept hk (hM _ m1),b2.kept hk (hM _ m2),own_kept o1 hk fun j hj=>hM _ (d1 j hj).1,own_kept o2 hk fun j hj=>hM _ (d2 j hj).1⟩,⟨hd,pk,st,true,Blk.kept hp hk (hM _ mp)⟩⟩
 obtain ⟨es,clock,hb,-⟩:=hf.things
 exact hne2 hb
theorem ended_any (F:Fx) (M:Nat→Prop) (inp out err:Bts) (g mb:Nat) (st0:Int) (w:World) (h:PrAt w F M inp out err) (hmb:MachAt w mb F.p g false st0) (hn0:F.n0≤mb) (hM:¬ M mb) :
  Calls Tryz.prog 81 #[.pointer (some ⟨mb,0,none⟩)] w fun e w'=>(∃ v,e=.returned v)∧EndAt w' F out err∧MachAt w' mb F.p g true st0∧Kept (fun j=>M j∨j=mb∨j=F.tb) w w':=by
 have hpm:F.p≠mb:=fun e=>hM (e ▸ h.mp)
 have hmp:mb≠F.p:=hpm.symm
 have m0:=hmb.cell 0 (v:=.pointer (some ⟨F.p,0,none⟩)) rfl
 have m2:=hmb.cell 2 (v:=.bool false) rfl
 have mf2:=hmb.free 2
 have H:=Lib.hid h
 have HMB:=Lib.hid hmb
 clear h hmb
 go_enter Tryz.func81,Tryz.ntmps81
 go_wp2_with fail
 obtain ⟨w1,hw1⟩:∃ w1,w.setCell ⟨mb,2,none⟩ (.bool true)=w1:=⟨_,rfl⟩
 have hm1:MachAt w1 mb F.p g true st0:=by rw [← hw1];exact Blk.set HMB.out 2 _
 have hk1:Kept (fun j=>j=mb) w w1:=by rw [← hw1];exact (Kept.refl (fun j=>j=mb) _).setCell (.inl rfl) 2 _
 have hp1:=H.out.kept hk1 fun j hj=>by subst hj;exact ⟨hn0,hM⟩
 rw [hw1]
 obtain ⟨hd,pk,st,hpp⟩:=hp1.proc
 have n0:=hm1.cell 0 (v:=.pointer (some ⟨F.p,0,none⟩)) rfl
 have c8:=hpp.cell 8 (v:=.int .i64 hd) rfl
 have f8:=hpp.free 8
 have c10:=hpp.cell 10 (v:=.slice none 0 0) rfl
 have f10:=hpp.free 10
 have HP1:=Lib.hid hp1
 have HM1:=Lib.hid hm1
 have HK1:=Lib.hid hk1
 have HPP:=Lib.hid hpp
 clear hp1 hm1 hk1 hpp hw1 m0 m2 mf2
 go_region_held3 (fun w'=>w'.cell? ⟨mb,0,none⟩=some (.pointer (some ⟨F.p,0,none⟩))) (first | go_keep) (fail)
 obtain ⟨w2,hw2⟩:∃ w2,((w1.setCell ⟨F.p,8,none⟩ (.int .i64 0)).setCell ⟨F.p,10,none⟩ (.slice none 0 0)).drew=w2:=⟨_,rfl⟩
 have hk2:Kept (fun j=>j=F.p) w1 w2:=by rw [← hw2];exact (((Kept.refl (fun j=>j=F.p) _).setCell (.inl rfl) 8 _).setCell (.inl rfl) 10 _).drew
 have hpp2:ProcAt w2 F.p F.k F.tb F.av F.buf F.line F.run 0 pk true true st F.al:=by rw [← hw2];exact ((Blk.set HPP.out 8 _).set 10 _).drew
 rw [hw2]
 have hp2:=HP1.out.turn hk2 hpp2
 have hm2:MachAt w2 mb F.p g true st0:=Blk.kept HM1.out hk2 hmp
 have q0:=hm2.cell 0 (v:=.pointer (some ⟨F.p,0,none⟩)) rfl
 have q1:=hpp2.cell 1 (v:=.pointer (some ⟨F.tb,0,none⟩)) rfl
 have hf:=free_any F.tb F.k F.s0 F.s1 F.s2 w2 hp2.fix.tab
 have hmt:mb≠F.tb:=by have:=hp2.fix.oldTb.1;omega
 have HP2:=Lib.hid hp2
 have HM2:=Lib.hid hm2
 have HK2:=Lib.hid hk2
 clear hw2 hk2 hpp2 hp2 hm2 c8 f8 c10 f10 n0
 go_wp2_with fail
 refine hf.mono ?_
 rintro e w3 ⟨⟨u,rfl⟩,-,hk3⟩
 have HK3:=Lib.hid hk3
 clear hf hk3
 go_wp2_with fail
 refine bodyPost_end (results_none rfl _ _ _) rfl ⟨⟨_,rfl⟩,HP2.out.ends HK3.out fun j hj=>.inl hj,Blk.kept HM2.out HK3.out hmt, ?_⟩
 exact ((HK1.out.mono fun _ _ h=>.inr (.inl h)).trans (HK2.out.mono fun _ _ h=>.inl (h ▸ H.out.mp))).trans (HK3.out.mono fun _ _ h=>.inr (.inr h))
theorem goOn_any (F:Fx) (M:Nat→Prop) (inp out err:Bts) (g mb:Nat) (st0:Int) (w:World) (h:PrAt w F M inp out err) (hmb:MachAt w mb F.p g false st0) (hn0:F.n0≤mb) (hM:¬ M mb)
  (hent:∀ (args:Array Value) (w:World),(callFunc g args).run Tryz.prog w=.ok (.enter g args) w) (Q:Int→Bts→Bts→Prop)
  (hmain:∀ W,PrAt W F M inp out err→Calls Tryz.prog g #[.pointer (some ⟨F.p,0,none⟩)] W fun e W'=>∃ st inp' out' err' M',e=.returned (.int .i64 st)∧PrAt W' F M' inp' out' err'∧Mv M M' W W'∧Q st out' err') :
  Calls Tryz.prog 46 #[.pointer (some ⟨mb,0,none⟩)] w fun e w'=>(∃ v,e=.returned v)∧∃ st out' err',EndAt w' F out' err'∧MachAt w' mb F.p g true st∧Kept (fun j=>M j∨j=mb∨j=F.tb) w w'∧Q st out' err':=by
 have hpm:F.p≠mb:=fun e=>hM (e ▸ h.mp)
 have hmp:mb≠F.p:=hpm.symm
 obtain ⟨hd,pk,st,hpp⟩:=h.proc
 have n0:=hmb.cell 0 (v:=.pointer (some ⟨F.p,0,none⟩)) rfl
 have c8:=hpp.cell 8 (v:=.int .i64 hd) rfl
 have f8:=hpp.free 8
 have c11:=hpp.cell 11 (v:=.int .i64 0) rfl
 have f11:=hpp.free 11
 have H:=Lib.hid h
 have HMB:=Lib.hid hmb
 have HPP:=Lib.hid hpp
 clear h hmb hpp
 go_enter Tryz.func46,Tryz.ntmps46
 go_wp2_with fail
 go_region_held3 (fun w'=>w'.cell? ⟨mb,0,none⟩=some (.pointer (some ⟨F.p,0,none⟩))) (first | go_keep) (fail)
 obtain ⟨w2,hw2⟩:∃ w2,((w.setCell ⟨F.p,11,none⟩ (.int .i64 0)).setCell ⟨F.p,8,none⟩ (.int .i64 0)).drew=w2:=⟨_,rfl⟩
 have hk2:Kept (fun j=>j=F.p) w w2:=by rw [← hw2];exact (((Kept.refl (fun j=>j=F.p) _).setCell (.inl rfl) 11 _).setCell (.inl rfl) 8 _).drew
 have hpp2:ProcAt w2 F.p F.k F.tb F.av F.buf F.line F.run 0 pk true true st F.al:=by rw [← hw2];exact ((Blk.set HPP.out 11 _).set 8 _).drew
 rw [hw2]
 have hp2:=H.out.turn hk2 hpp2
 have hm2:MachAt w2 mb F.p g false st0:=Blk.kept HMB.out hk2 hmp
 have hat:=attempt_any F M inp out err g mb st0 w2 hp2 hm2 hn0 hM hent Q hmain
 have HK2:=Lib.hid hk2
 clear hw2 hk2 hpp2 hp2 hm2 c8 f8 c11 f11 n0 hmain
 go_wp2_with fail
 refine hat.mono ?_
 rintro e w3 ⟨rfl,st3,inp3,out3,err3,M3,hp3,hm3,hv3,hq⟩
 have hM3:¬ M3 mb:=fun e=>by
  rcases hv3.2 mb e with h | h
  ·exact hM h
  ·have:=(Blk.kept HMB.out HK2.out hmp).lt;omega
 have hen:=ended_any F M3 inp3 out3 err3 g mb st3 w3 hp3 hm3 hn0 hM3
 have HV3:=Lib.hid hv3
 have HQ:=Lib.hid hq
 clear hat hp3 hm3 hv3 hq
 go_wp2_with fail
 refine hen.mono ?_
 rintro e w4 ⟨⟨u,rfl⟩,he4,hm4,hk4⟩
 have HE4:=Lib.hid he4
 have HM4:=Lib.hid hm4
 have HK4:=Lib.hid hk4
 clear hen he4 hm4 hk4
 go_wp2_with fail
 refine bodyPost_end (results_none rfl _ _ _) rfl ⟨⟨_,rfl⟩,st3,out3,err3,HE4.out,HM4.out, ?_,HQ.out⟩
 have h1:Kept (fun j=>M j∨j=mb∨j=F.tb) w w3:=(HK2.out.mono fun _ _ h=>.inl (h ▸ H.out.mp)).trans (HV3.out.1.mono fun _ _ h=>h.elim .inl fun h=>.inr (.inl h))
 exact h1.trans' HK4.out fun k hk e=>by
  rcases e with e | e | e
  ·rcases HV3.out.2 k e with h | h
   ·exact .inl h
   ·have:=HK2.out.size;omega
  ·exact .inr (.inl e)
  ·exact .inr (.inr e)
end Go.Proofs.YtefpcacnblaokaaGreatDoor

/-
  The walk of proc.New. Conditions: the arguments lie in memory; without an environment.
-/
set_option maxRecDepth 100000
set_option maxHeartbeats 4000000
namespace Go.Proofs.YtefpcacnblaokaaGreatDoor
open Go.RowKit Go.Shelf Go.Maps
def Ss (w:World) (p:Option Addr) (l:List Bts):Prop:=0 < l.length→∃ b o,p=some ⟨b,o,none⟩∧∀ i,i < l.length→w.cell? ⟨b,o+i,none⟩=some (strV (l.getD i []))
theorem Ss.below {w w':World} {p:Option Addr} {l:List Bts} (h:Ss w p l) (hb:Below w.heap.size w w'):Ss w' p l:=by
 intro hl
 obtain ⟨b,o,hp,hc⟩:=h hl
 exact ⟨b,o,hp,fun i hi=>(hb.cell (p:=⟨b,o+i,none⟩) (World.block_lt_of_cell? _ _ (hc i hi))).trans (hc i hi)⟩
theorem clone_ss (w:World) (p:Option Addr) (l:List Bts) (c:Nat) (h:Ss w p l) (hl:l.length < 1073741824) :
  Calls Tryz.prog 76 #[.slice p l.length c] w fun e w'=>∃ v',e=.returned v'∧StrsOwn w' w.heap.size v' l∧Below w.heap.size w w':=by
 rcases Nat.eq_zero_or_pos l.length with h0 | h0
 ·obtain rfl:l=[]:=List.eq_nil_of_length_eq_zero h0
  cases p with
  | none=>
   refine (Any.slices_Clone_string_nil Tryz.laysNm216 0 c w).mono ?_
   rintro e w' ⟨rfl,rfl⟩
   exact ⟨_,rfl,World.ownsRow_nil _ _ _ _,Below.refl _ _⟩
  | some a=>
   refine (Any.slices_Clone_string_zero Tryz.laysNm216 a c w).mono ?_
   rintro e w' ⟨v',rfl,hown,-,hb⟩
   exact ⟨v',rfl,hown,hb⟩
 ·obtain ⟨b,o,rfl,hc⟩:=h h0
  refine (Any.slices_Clone_string Tryz.laysNm216 b o l.length c (l.map fun s=>⟨s.toArray⟩) w (by simp) (by omega) fun j hj=>?_).mono ?_
  ·rw [List.length_map] at hj
   rw [hc j hj]
   simp [List.getD_eq_getElem?_getD,hj,strV]
  ·rintro e w' ⟨v',rfl,hown,-,hb⟩
   refine ⟨v',rfl, ?_,hb⟩
   have e2:((l.map fun s=>(⟨s.toArray⟩:ByteArray)).take l.length).map Value.string=l.map strV:=by
    rw [List.take_of_length_le (by simp),List.map_map];rfl
   rw [e2] at hown
   exact hown
theorem strs_shape {w:World} {B:Nat} {v:Value} {l:List Bts} (h:StrsOwn w B v l):∃ p c,v=.slice p l.length c:=by
 rcases h.2 with ⟨h1,h2⟩ | ⟨g,cap,cur,e,-⟩
 ·exact ⟨none,0,by rw [h2];exact h1⟩
 ·exact ⟨_,_,e⟩
theorem procNew_any (k:Nat) (p:Option Addr) (l:List Bts) (c:Nat) (buf line run:Int) (w:World) (h:Ss w p l) (hl:l.length < 1073741824) :
  Calls Tryz.prog 41 #[.pointer (some ⟨k,0,none⟩),.slice p l.length c,.slice none 0 0,.string ⟨#[]⟩,.agg #[.int .i64 buf,.int .i64 line,.int .i64 run]] w fun e w'=>∃ pp tb al v,e=.returned (.pointer (some ⟨pp,0,none⟩))∧ProcAt w' pp k tb v buf line run 0 0 false false 0 al∧TabAt w' tb k .nilIface .nilIface .nilIface∧Blk w' al #[.slice none 0 0,.slice none 0 0,.int .i64 (-1)] 113∧StrsOwn w' w.heap.size v l∧w.heap.size≤pp∧w.heap.size≤tb∧w.heap.size≤al∧pp≠tb∧pp≠al∧tb≠al∧Below w.heap.size w w':=by
 obtain ⟨w1,hw1⟩:∃ w1,w.alloc (.cells #[.int .i64 buf,.int .i64 line,.int .i64 run] 24)=w1:=⟨_,rfl⟩
 have hb1:Below w.heap.size w w1:=by rw [← hw1];exact (Below.refl _ _).alloc (Nat.le_refl _) _
 have hn1:Blk w1 w.heap.size #[.int .i64 buf,.int .i64 line,.int .i64 run] 24:=by rw [← hw1];exact Blk.new _ _ _
 have a0:=hn1.cell 0 (v:=.int .i64 buf) rfl
 have a1:=hn1.cell 1 (v:=.int .i64 line) rfl
 have a2:=hn1.cell 2 (v:=.int .i64 run) rfl
 have hl1:=hn1.lt
 have HB1:=Lib.hid hb1
 have HN1:=Lib.hid hn1
 have HS:=Lib.hid (h.below hb1)
 clear hb1 hn1 h
 have FIN:Hid (∀ Wp tb al v B,TabAt Wp tb k .nilIface .nilIface .nilIface→Blk Wp al #[.slice none 0 0,.slice none 0 0,.int .i64 (-1)] 113→StrsOwn Wp B v l→w.heap.size≤B→Below w.heap.size w Wp→w.heap.size≤tb→w.heap.size≤al→tb≠al →
   ∃ pp tb' al' v',Ending.returned (.pointer (some ⟨Wp.heap.size,0,none⟩))=.returned (.pointer (some ⟨pp,0,none⟩))∧ProcAt (Wp.alloc (.cells #[.pointer (some ⟨k,0,none⟩),.pointer (some ⟨tb,0,none⟩),v,.slice none 0 0,.string ⟨#[]⟩,.int .i64 buf,.int .i64 line,.int .i64 run,.int .i64 0,.int .i64 0,.slice none 0 0,.int .i64 0,.bool false,.bool false,.bool false,.int .i64 0,.nilIface,.pointer (some ⟨al,0,none⟩)] 109)) pp k tb' v' buf line run 0 0 false false 0 al' ∧
    TabAt (Wp.alloc (.cells #[.pointer (some ⟨k,0,none⟩),.pointer (some ⟨tb,0,none⟩),v,.slice none 0 0,.string ⟨#[]⟩,.int .i64 buf,.int .i64 line,.int .i64 run,.int .i64 0,.int .i64 0,.slice none 0 0,.int .i64 0,.bool false,.bool false,.bool false,.int .i64 0,.nilIface,.pointer (some ⟨al,0,none⟩)] 109)) tb' k .nilIface .nilIface .nilIface ∧
    Blk (Wp.alloc (.cells #[.pointer (some ⟨k,0,none⟩),.pointer (some ⟨tb,0,none⟩),v,.slice none 0 0,.string ⟨#[]⟩,.int .i64 buf,.int .i64 line,.int .i64 run,.int .i64 0,.int .i64 0,.slice none 0 0,.int .i64 0,.bool false,.bool false,.bool false,.int .i64 0,.nilIface,.pointer (some ⟨al,0,none⟩)] 109)) al' #[.slice none 0 0,.slice none 0 0,.int .i64 (-1)] 113 ∧
    StrsOwn (Wp.alloc (.cells #[.pointer (some ⟨k,0,none⟩),.pointer (some ⟨tb,0,none⟩),v,.slice none 0 0,.string ⟨#[]⟩,.int .i64 buf,.int .i64 line,.int .i64 run,.int .i64 0,.int .i64 0,.slice none 0 0,.int .i64 0,.bool false,.bool false,.bool false,.int .i64 0,.nilIface,.pointer (some ⟨al,0,none⟩)] 109)) w.heap.size v' l∧w.heap.size≤pp∧w.heap.size≤tb'∧w.heap.size≤al'∧pp≠tb'∧pp≠al'∧tb'≠al'∧Below w.heap.size w (Wp.alloc (.cells #[.pointer (some ⟨k,0,none⟩),.pointer (some ⟨tb,0,none⟩),v,.slice none 0 0,.string ⟨#[]⟩,.int .i64 buf,.int .i64 line,.int .i64 run,.int .i64 0,.int .i64 0,.slice none 0 0,.int .i64 0,.bool false,.bool false,.bool false,.int .i64 0,.nilIface,.pointer (some ⟨al,0,none⟩)] 109))):=Lib.hid (by
  intro Wp tb al v B h1 h2 h3 h4 h5 h6 h7 h8
  have hlt1:=h1.lt
  have hlt2:=h2.lt
  exact ⟨_,tb,al,v,rfl,Blk.new _ _ _,h1.alloc _,h2.alloc _,own_mono (own_kept h3 (Kept.of_below (S:=fun _=>False) ((Below.refl _ _).alloc (Nat.le_refl _) _)) fun _ _ h=>h) h4,h5.size,h6,h7,by omega,by omega,h8,h5.alloc h5.size _⟩)
 go_enter Tryz.func41,Tryz.ntmps41
 go_wp2_with fail
 try rw [hw1]
 clear hw1
 go_region_held3 (fun w'=>w'.cell? ⟨w.heap.size,0,none⟩=some (.int .i64 buf)∧w'.cell? ⟨w.heap.size,1,none⟩=some (.int .i64 line)∧w'.cell? ⟨w.heap.size,2,none⟩=some (.int .i64 run)) (first | go_keep | (exact HL2.out) | (exact HL3.out))
  ((first
   | (go_at_call 75;refine (table_any k _).mono ?_;rintro e w2 ⟨rfl,ht2,hb2⟩;have hbb2:Below w1.heap.size w1 w2:=(by first | exact (below_drew2 w1).trans hb2 | exact ((below_drew2 w1).alloc (Nat.le_refl _) _).trans (hb2.mono (by simp)) | exact (((Below.refl _ w1).alloc (Nat.le_refl _) _).drew).trans (hb2.mono (by simp)));have HL2:=Lib.hid (show w2.cell? ⟨w.heap.size,0,none⟩=some (.int .i64 buf)∧w2.cell? ⟨w.heap.size,1,none⟩=some (.int .i64 line)∧w2.cell? ⟨w.heap.size,2,none⟩=some (.int .i64 run) from ⟨(hbb2.cell (p:=⟨w.heap.size,0,none⟩) hl1).trans a0,(hbb2.cell (p:=⟨w.heap.size,1,none⟩) hl1).trans a1,(hbb2.cell (p:=⟨w.heap.size,2,none⟩) hl1).trans a2⟩);have HT2:=Lib.hid ht2;have HB2:=Lib.hid hbb2;have HBR2:=Lib.hid hb2;clear ht2 hb2 hbb2)
   | (go_at_call 76;refine (clone_ss _ p l c (HS.out.below (by first | exact HB2.out | exact HB2.out.alloc HB2.out.size _)) hl).mono ?_;rintro e w3 ⟨v3,rfl,ho3,hb3⟩;obtain ⟨p3,c3,rfl⟩:=strs_shape ho3;have hb23:Below w2.heap.size w2 w3:=(by first | exact hb3 | exact (((Below.refl _ w2).alloc (Nat.le_refl _) _)).trans (hb3.mono (by simp)));have hbb3:=HB2.out.trans (hb23.mono HB2.out.size);have HL3:=Lib.hid (show w3.cell? ⟨w.heap.size,0,none⟩=some (.int .i64 buf)∧w3.cell? ⟨w.heap.size,1,none⟩=some (.int .i64 line)∧w3.cell? ⟨w.heap.size,2,none⟩=some (.int .i64 run) from ⟨(hbb3.cell (p:=⟨w.heap.size,0,none⟩) hl1).trans a0,(hbb3.cell (p:=⟨w.heap.size,1,none⟩) hl1).trans a1,(hbb3.cell (p:=⟨w.heap.size,2,none⟩) hl1).trans a2⟩);have HO3:=Lib.hid ho3;have HB3:=Lib.hid hbb3;have HB23:=Lib.hid hb23;have HBR3:=Lib.hid hb3;clear ho3 hb3 hb23 hbb3)
   | (go_at_call 76;refine (Any.slices_Clone_string_nil Tryz.laysNm216 0 0 _).mono ?_;rintro e w4 ⟨rfl,rfl⟩)))
 ·go_wp2_with fail
  go_ret
  have hh:=FIN.out _ _ _ _ _ ((HT2.out.keep HB23.out HT2.out.lt).alloc _) (Blk.new _ _ _) (own_kept HO3.out (Kept.of_below (S:=fun _=>False) ((Below.refl _ _).alloc (Nat.le_refl _) _)) fun _ _ h=>h) (Nat.le_trans HB1.out.size HB2.out.size) ((HB1.out.trans (HB3.out.mono HB1.out.size)).alloc (Nat.le_trans HB1.out.size HB3.out.size) _) HB1.out.size (Nat.le_trans HB1.out.size HB3.out.size) (Nat.ne_of_lt (Nat.lt_of_lt_of_le HT2.out.lt HB23.out.size))
  simp only [World.size_alloc] at hh
  exact hh
 ·go_wp2_with fail
  go_ret
  have hh:=FIN.out _ _ _ _ _ ((HT2.out.keep HB23.out HT2.out.lt).alloc _) (Blk.new _ _ _) (own_kept HO3.out (Kept.of_below (S:=fun _=>False) ((Below.refl _ _).alloc (Nat.le_refl _) _)) fun _ _ h=>h) (Nat.le_trans HB1.out.size HB2.out.size) ((HB1.out.trans (HB3.out.mono HB1.out.size)).alloc (Nat.le_trans HB1.out.size HB3.out.size) _) HB1.out.size (Nat.le_trans HB1.out.size HB3.out.size) (Nat.ne_of_lt (Nat.lt_of_lt_of_le HT2.out.lt HB23.out.size))
  simp only [World.size_alloc] at hh
  exact hh
 ·go_wp2_with fail
  go_ret
  exact FIN.out _ _ _ _ _ (HT2.out.keep HB23.out HT2.out.lt) ((Blk.new w2 _ _).keep HBR3.out (by simp)) HO3.out (Nat.le_trans HB1.out.size (Nat.le_trans HB2.out.size (by simp))) (HB1.out.trans (HB3.out.mono HB1.out.size)) HB1.out.size (Nat.le_trans HB1.out.size HB2.out.size) (Nat.ne_of_lt HT2.out.lt)
 ·go_wp2_with fail
  go_ret
  have ht:=HT2.out.keep HB23.out HT2.out.lt
  rw [show ((w1.alloc (.cells #[.slice none 0 0,.slice none 0 0,.int .i64 (-1)] 113)).drew).heap.size=w1.heap.size+1 by simp] at ht
  exact FIN.out _ _ _ _ _ ht (((Blk.new w1 _ _).drew.keep HBR2.out (by simp)).keep HB23.out (by have:=HBR2.out.size;simp at this;omega)) HO3.out (Nat.le_trans HB1.out.size HB2.out.size) (HB1.out.trans (HB3.out.mono HB1.out.size)) (by have:=HB1.out.size;omega) HB1.out.size (by omega)
end Go.Proofs.YtefpcacnblaokaaGreatDoor

/-
  The walk of maps.Keys' iterator over an empty map. Condition: the map is empty.
-/
set_option maxRecDepth 100000
set_option maxHeartbeats 2000000
namespace Go.Proofs.YtefpcacnblaokaaGreatDoor
open Go.RowKit Go.Shelf Go.Maps
theorem range_empty (w:World) (a:Nat) (ha:w.heap[a]?=some (.map #[] 0)):(Instr.range 194 (.map (some a))).run Tryz.prog w=.ok (.pointer (some ⟨w.heap.size,0,none⟩)) (w.alloc (.mapIter (some a) 0 #[] 0)):=
 run_range_map w _ _ _ a #[] 0 Tryz.underlying194 ha
theorem next_empty (w:World) (ty:TypeId) (a r:Nat) (hr:w.heap[r]?=some (.mapIter (some a) 0 #[] 0)) (ha:w.heap[a]?=some (.map #[] 0)):(Instr.next (.pointer (some ⟨r,0,none⟩)) false ty).run Tryz.prog w=.ok (.tuple #[.bool false]) w:=by
 rcases run_next_at (P:=Tryz.prog) w ty r a 0 0 #[] #[] 0 hr ha (by simp) (Nat.le_refl _) with h | ⟨e,he,-⟩
 ·exact h.2
 ·simp [leftOf] at he
theorem keys1_calls (l Bn a:Nat) (W:World) (hB:W.cell? ⟨Bn,0,none⟩=some (.map (some a))) (ha:W.heap[a]?=some (.map #[] 0)) :
  Calls Tryz.prog 245 #[.func (.yield l) #[] #[],.pointer (some ⟨Bn,0,none⟩)] W fun e W'=>(∃ v,e=.returned v)∧W'=W.alloc (.mapIter (some a) 0 #[] 0):=by
 have hr:=range_empty W a ha
 obtain ⟨w1,hw1⟩:∃ w1,W.alloc (.mapIter (some a) 0 #[] 0)=w1:=⟨_,rfl⟩
 have hn:∀ ty,(Instr.next (.pointer (some ⟨W.heap.size,0,none⟩)) false ty).run Tryz.prog w1=.ok (.tuple #[.bool false]) w1:=fun ty=>next_empty w1 ty a W.heap.size (by rw [← hw1];exact heap_alloc_new W _) (by rw [← hw1,heap_alloc_old W _ (lt_of_heap ha)];exact ha)
 rw [hw1] at hr ⊢
 clear hw1
 go_enter Tryz.func245,Tryz.ntmps245
 go_wp2_with fail
 go_loopw [3] (fun _x3 wr=>wr=w1) (fun _ _=>0)
 case atStart=>rfl
 case round=>
  obtain rfl:=hrel
  go_wp2_with fail
  go_end0
  exact ⟨⟨_,rfl⟩,rfl⟩
end Go.Proofs.YtefpcacnblaokaaGreatDoor
