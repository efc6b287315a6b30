/- The walk of Pool.Take when all frames are used. Take for every pool; New, used, Touch, Pin, Hand. New, and the law's own known. A pool of frames: Count, Clean, Drop, At (picked out of frames' texts by -/
import Derived.Test.YtlhfjaagkgengaaGreatPC05
namespace Go.Proofs.YtlhfjaagkgengaaGreat
set_option maxRecDepth 100000
set_option maxHeartbeats 2000000
open Go.RowKit Go.Maps
set_option linter.unusedVariables false
set_option linter.unusedSimpArgs false
section
variable {w:World} {P B M n:Nat} {F:Nat→Fr} {h:Nat} {g:Int→Option Nat} {c:Nat} {key:Int}
theorem Take_full (p:PoolAt w P B M n F h g c) (hk:(Lit.int .i64 key).wf=true) (hg:(g key).isSome=false) (hj:freeAt F n= -1) (hlo:loose F n=false):
 Calls Tryz.prog 124 #[.pointer (some ⟨P,0,none⟩),.int .i64 key] w (TakePost P B M n (takeR n F h g key) w):=by
 have HR:Hid (takeR n F h g key=⟨0,Fr.zero,false,10,F,h,g⟩):=by unfold takeR;rw [if_neg (by rw [hg];exact Bool.false_ne_true),hj,if_neg (by omega),if_neg (by rw [hlo];exact Bool.false_ne_true)];rfl
 have HP:=hJ p
 have p0:PoolAt (w.alloc (.cells #[.int .i64 0,.bool false,.bool false,.bool false,.int .i64 0] 214)) P B M n F h g c:=p.up (jB.alloc jN _)
 have HF:=hJ (Find_any p0 hk)
 have HI:=hJ (IndexFunc_any 160 (fun f=>!f.used) cf1 (fun f w=>notUsed_any f w) _ B n F p.most p0.fr)
 have HJ:=hJ hj
 have hn:=p.most
 have l0:=p0.l0
 have ltw:=p.ltP
 have ltb:=p.ltB
 have HP0:=hJ p0
 clear p p0 hj
 go_enter Tryz.func124,Tryz.ntmps124
 go_wp2_with fail
 refine HF.out.mono ?_
 rintro e w1 ⟨rfl,rfl⟩
 unfold findV
 rw [hg]
 go_wp2_with fail
 refine HI.out.mono ?_
 rintro e w1 ⟨rfl,hb1⟩
 rw [show first (fun i=>!(F i).used) n= -1 from HJ.out]
 have p1:=HP0.out.up hb1
 have r1:ROut w1 w.heap.size Fr.zero:=(hb1.block _ (by simp)).trans (heap_alloc_new w _)
 have o1:Off (PB P B M) w w1:=(Off.of_below (jB.alloc jN _)).step hb1
 have l0':=p1.l0
 have HC:=hJ (ContainsFunc_any 162 (fun f=>f.pins==0) cf2 (fun f w=>noPins_any f w) w1 B n F hn p1.fr)
 have HP1:=hJ p1
 have HR1:=hJ r1
 have HO1:=hJ o1
 clear p1 r1 o1 hb1 l0
 go_wp2_with fail
 refine HC.out.mono ?_
 rintro e w2 ⟨rfl,hb2⟩
 rw [show decide (0≤first (fun i=>(F i).pins==0) n)=loose F n from rfl,hlo]
 have p2:=HP1.out.up hb2
 have r2:ROut w2 w.heap.size Fr.zero:=(hb2.block _ HR1.out.lt).trans HR1.out
 have o2:Off (PB P B M) w w2:=HO1.out.step hb2
 clear HC hb2 l0'
 obtain ⟨d0,d1,d2,d3,d4⟩:=r2.cells
 have y0:=r2.frozen 0
 have y1:=r2.frozen 1
 have y2:=r2.frozen 2
 have y3:=r2.frozen 3
 have y4:=r2.frozen 4
 have HP2:=hJ p2
 have HO2:=hJ o2
 clear p2 r2 o2
 simp only [Fr.zero] at d0 d1 d2 d3 d4
 go_wp2
 refine bodyPost_ret (v:=.tuple #[.int .i64 0,.agg #[.int .i64 0,.bool false,.bool false,.bool false,.int .i64 0],.bool false,.int .i64 10]) (by simp [results,Tryz.results124,go_sem,d0,d1,d2,d3,d4]) rfl ?_
 rw [HR.out]
 refine take_done HP2.out HO2.out (R:=w.heap.size) (by omega) (by omega) (by have:=HP.out.ltM;omega) jN rfl ?_
 exact off_out _ _ _ _ _ _ _
theorem Take_give {r:Nat} {F':Nat→Fr} (p:PoolAt w P B M n F h g c) (hk:(Lit.int .i64 key).wf=true) (hg:(g key).isSome=false) (hj:freeAt F n= -1) (hlo:loose F n=true)
 (hs:sw n (2*n+1) h F=((r:Int),F')) (hrn:r<n) (hcl:Cleared F F'):
 Calls Tryz.prog 124 #[.pointer (some ⟨P,0,none⟩),.int .i64 key] w (TakePost P B M n (takeR n F h g key) w):=by
 have HR:Hid (takeR n F h g key=⟨r,F' r,true,0,putF F' r (Fr.new key),(r+1)%n,upd (upd g (F' r).key none) key (some r)⟩):=by unfold takeR;rw [if_neg (by rw [hg];exact Bool.false_ne_true),hj,if_neg (by omega),if_pos hlo,hs];rfl
 have HS:=hJ hs
 have HCL:=hJ hcl
 clear hs hcl
 have HP:=hJ p
 have p0:PoolAt (w.alloc (.cells #[.int .i64 0,.bool false,.bool false,.bool false,.int .i64 0] 214)) P B M n F h g c:=p.up (jB.alloc jN _)
 have HF:=hJ (Find_any p0 hk)
 have HI:=hJ (IndexFunc_any 160 (fun f=>!f.used) cf1 (fun f w=>notUsed_any f w) _ B n F p.most p0.fr)
 have HJ:=hJ hj
 have hn:=p.most
 have l0:=p0.l0
 have ltw:=p.ltP
 have ltb:=p.ltB
 have HP0:=hJ p0
 clear p p0 hj
 go_enter Tryz.func124,Tryz.ntmps124
 go_wp2_with fail
 refine HF.out.mono ?_
 rintro e w1 ⟨rfl,rfl⟩
 unfold findV
 rw [hg]
 go_wp2_with fail
 refine HI.out.mono ?_
 rintro e w1 ⟨rfl,hb1⟩
 rw [show first (fun i=>!(F i).used) n= -1 from HJ.out]
 have p1:=HP0.out.up hb1
 have r1:ROut w1 w.heap.size Fr.zero:=(hb1.block _ (by simp)).trans (heap_alloc_new w _)
 have o1:Off (PB P B M) w w1:=(Off.of_below (jB.alloc jN _)).step hb1
 have l0':=p1.l0
 have HC:=hJ (ContainsFunc_any 162 (fun f=>f.pins==0) cf2 (fun f w=>noPins_any f w) w1 B n F hn p1.fr)
 have HP1:=hJ p1
 have HR1:=hJ r1
 have HO1:=hJ o1
 clear p1 r1 o1 hb1 l0
 go_wp2_with fail
 refine HC.out.mono ?_
 rintro e w2 ⟨rfl,hb2⟩
 rw [show decide (0≤first (fun i=>(F i).pins==0) n)=loose F n from rfl,hlo]
 have p2:=HP1.out.up hb2
 have r2:ROut w2 w.heap.size Fr.zero:=(hb2.block _ HR1.out.lt).trans HR1.out
 have o2:Off (PB P B M) w w2:=HO1.out.step hb2
 clear HC hb2 l0'
 have l0:=p2.l0
 have l2:=p2.l2
 have HP2:=hJ p2
 have HR2:=hJ r2
 have HO2:=hJ o2
 clear p2 r2 o2
 go_upto_region 8 with (fail)
 go_still_tail 8,(by kernel_rfl)
 change wpList _ _ _ _ _ w2.drew
 go_wp2_with fail
 refine (sweep_any w2.drew B n h F hn HP2.out.pos HP2.out.hand HP2.out.drew.fr HP2.out.drew.fz).mono ?_
 rintro e w3 ⟨rfl,hfr,hfz,ho⟩
 rw [HS.out] at hfr ⊢
 simp only at hfr ⊢
 have hkw:∀i,i<n→(Lit.int .i64 (F' i).key).wf=true:=fun i hi=>by rw [(HCL.out i).1];exact HP2.out.kw i hi
 have HKW:=hJ (hkw r hrn)
 have p3:=HP2.out.drew.frames hfr hfz ho hkw
 have hRB:w.heap.size≠B:=by omega
 have r3:ROut w3 w.heap.size Fr.zero:=(ho.block _ HR2.out.lt hRB).trans HR2.out
 have o3:Off (PB P B M) w w3:=HO2.out.drew.trans (ho.mono fun k e=>.inr (.inl e))
 clear hfr hfz ho hkw HF HI HJ HP1 HR1 HO1 HP2 HR2 HO2 l0 l2
 have l0:=p3.l0
 obtain ⟨c0,c1,c2,c3,c4⟩:=p3.fr r hrn
 obtain ⟨d0,d1,d2,d3,d4⟩:=r3.cells
 have y0:=r3.frozen 0
 have y1:=r3.frozen 1
 have y2:=r3.frozen 2
 have y3:=r3.frozen 3
 have y4:=r3.frozen 4
 have HX:Hid (∀W,W=(((((w3.setCell ⟨w.heap.size,0,none⟩ (.int .i64 (F' r).key)).setCell ⟨w.heap.size,1,none⟩ (.bool (F' r).used)).setCell ⟨w.heap.size,2,none⟩ (.bool (F' r).ref)).setCell ⟨w.heap.size,3,none⟩ (.bool (F' r).dirty)).setCell ⟨w.heap.size,4,none⟩ (.int .i64 (F' r).pins))→PoolAt W P B M n F' h g c∧ROut W w.heap.size (F' r)∧Off (PB P B M) w W):=by
  rintro W rfl
  have h1:=off_out w3 w.heap.size (.int .i64 (F' r).key) (.bool (F' r).used) (.bool (F' r).ref) (.bool (F' r).dirty) (.int .i64 (F' r).pins)
  refine ⟨p3.off h1 (fun e=>by have:=HP.out.ltP;omega) (fun e=>hRB e.symm) (fun e=>by have:=HP.out.ltM;omega),?_,o3.late h1 (fun i hi e=>by omega)⟩
  unfold ROut at r3 ⊢
  simp [World.setCell,Array.getElem?_modify,r3]
 have HP3:=hJ p3
 clear p3 r3 o3
 simp only [Fr.zero] at d0 d1 d2 d3 d4
 go_upto_region 10 with (fail)
 refine wp_forget (fun W=>PoolAt W P B M n F' h g c∧ROut W w.heap.size (F' r)∧Off (PB P B M) w W) (HX.out _ rfl) ?_
 clear HX HP3 c0 c1 c2 c3 c4 d0 d1 d2 d3 d4 y0 y1 y2 y3 y4 l0 w3
 rintro w4 ⟨p4,r4,o4⟩
 obtain ⟨d0,d1,d2,d3,d4⟩:=r4.cells
 have l1:=p4.l1
 obtain ⟨k1,hk1⟩:=name_key HKW.out
 have HD:=hJ (p4.drew.mp.del (t:=218) nameKeyed Tryz.underlying218 hk1 0)
 have HP4:=hJ p4
 have HR4:=hJ r4
 have HO4:=hJ o4
 clear p4 r4 o4 hk1 d1 d2 d3 d4
 go_still_tail 7,(by kernel_rfl)
 obtain ⟨w5,hrun,hm,ho⟩:=HD.out
 rw [keyF_del] at hm
 have p5:=HP4.out.drew.mapped hm ho
 have r5:ROut w5 w.heap.size (F' r):=(ho.block _ HR4.out.lt (fun e=>by have:=HP.out.ltM;omega)).trans HR4.out
 have o5:Off (PB P B M) w w5:=HO4.out.drew.trans (ho.mono fun k e=>.inr (.inr e))
 refine wpList_delete_run rfl _ _ _ _ rfl _ _ rfl rfl hrun ?_
 clear hrun hm ho HD HP4 HR4 HO4 l1 d0
 generalize (if (keyF g (.agg #[.int .i64 (F' r).key])).isSome then c-1 else c)=c5 at p5
 have l0:=p5.l0
 have l2:=p5.l2
 have z:=p5.lz 2
 have hm:((r:Int)+1)%(n:Int)=(((r+1)%n:Nat):Int):=by rw [Int.natCast_emod];simp
 have HM:=hJ hm
 have hml:(r+1)%n<n:=Nat.mod_lt _ p5.pos
 have HX:Hid (∀W,W=w5.setCell ⟨P,2,none⟩ (.int .i64 (((r:Int)+1)%(n:Int)))→PoolAt W P B M n F' ((r+1)%n) (upd g (F' r).key none) c5∧ROut W w.heap.size (F' r)∧Off (PB P B M) w W):=by
  rintro W rfl
  rw [hm]
  refine ⟨p5.moved hml,?_,o5.setCell (.inl rfl) _⟩
  unfold ROut at r5 ⊢
  rw [Below.heap_setCell _ _ _ _ (by show w.heap.size≠P;omega)]
  exact r5
 have hpos:=p5.pos
 clear p5 r5 o5 hm
 go_upto_region 12 with (fail)
 refine wp_forget (fun W=>PoolAt W P B M n F' ((r+1)%n) (upd g (F' r).key none) c5∧ROut W w.heap.size (F' r)∧Off (PB P B M) w W) (HX.out _ rfl) ?_
 clear HX l0 l2 z w5
 rintro w6 ⟨p6,r6,o6⟩
 obtain ⟨c0,c1,c2,c3,c4⟩:=p6.fr r hrn
 have z0:=p6.fz (r*5)
 have z1:=p6.fz (r*5+1)
 have z2:=p6.fz (r*5+2)
 have z3:=p6.fz (r*5+3)
 have z4:=p6.fz (r*5+4)
 have l0':=p6.l0
 have HX:Hid (∀W,W=(((((w6.setCell ⟨B,r*5,none⟩ (.int .i64 key)).setCell ⟨B,r*5+1,none⟩ (.bool true)).setCell ⟨B,r*5+2,none⟩ (.bool true)).setCell ⟨B,r*5+3,none⟩ (.bool false)).setCell ⟨B,r*5+4,none⟩ (.int .i64 0))→PoolAt W P B M n (putF F' r (Fr.new key)) ((r+1)%n) (upd g (F' r).key none) c5∧ROut W w.heap.size (F' r)∧Off (PB P B M) w W):=by
  rintro W rfl
  have hB:∀o,PB P B M (⟨B,o,none⟩:Addr).block:=fun o=>.inr (.inl rfl)
  refine ⟨p6.put (f:=Fr.new key) hrn hk,?_,((((o6.setCell (hB _) _).setCell (hB _) _).setCell (hB _) _).setCell (hB _) _).setCell (hB _) _⟩
  unfold ROut at r6 ⊢
  rw [Below.heap_setCell _ _ _ _ hRB,Below.heap_setCell _ _ _ _ hRB,Below.heap_setCell _ _ _ _ hRB,Below.heap_setCell _ _ _ _ hRB,Below.heap_setCell _ _ _ _ hRB]
  exact r6
 clear p6 r6 o6
 go_upto_region 13 with (fail)
 refine wp_forget (fun W=>PoolAt W P B M n (putF F' r (Fr.new key)) ((r+1)%n) (upd g (F' r).key none) c5∧ROut W w.heap.size (F' r)∧Off (PB P B M) w W) (HX.out _ rfl) ?_
 clear HX c0 c1 c2 c3 c4 z0 z1 z2 z3 z4 l0' w6
 rintro w7 ⟨p7,r7,o7⟩
 obtain ⟨l,hl⟩:=name_key hk
 obtain ⟨w8,hrun,hmm,ho⟩:=p7.mp.put (val:=.int .i64 r) nameKeyed Tryz.underlying218 hl
 rw [keyF_put] at hmm
 have l1:=p7.l1
 have HQ:Hid (PoolAt w8 P B M n (putF F' r (Fr.new key)) ((r+1)%n) (upd (upd g (F' r).key none) key (some r)) _∧ROut w8 w.heap.size (F' r)∧Off (PB P B M) w w8):=
  ⟨p7.mapped hmm ho,(ho.block _ r7.lt (fun e=>by have:=HP.out.ltM;omega)).trans r7,o7.trans (ho.mono fun k e=>.inr (.inr e))⟩
 clear p7 r7 o7 hmm ho hl
 go_wp2
 obtain ⟨p3,r3,o3⟩:=HQ.out
 obtain ⟨d0,d1,d2,d3,d4⟩:=r3.cells
 have y0:=r3.frozen 0
 have y1:=r3.frozen 1
 have y2:=r3.frozen 2
 have y3:=r3.frozen 3
 have y4:=r3.frozen 4
 have HP3:=hJ p3
 have HO3:=hJ o3
 clear p3 r3 o3 HQ hrun
 go_region
 go_wp2
 refine bodyPost_ret (v:=.tuple #[.int .i64 r,.agg #[.int .i64 (F' r).key,.bool (F' r).used,.bool (F' r).ref,.bool (F' r).dirty,.int .i64 (F' r).pins],.bool true,.int .i64 0]) (by simp [results,Tryz.results124,go_sem,d0,d1,d2,d3,d4]) rfl ?_
 rw [HR.out]
 refine take_done HP3.out HO3.out (R:=w.heap.size) (by omega) (by omega) (by have:=HP.out.ltM;omega) jN rfl ?_
 exact (off_out _ _ _ _ _ _ _).drew
end
set_option maxRecDepth 100000
set_option maxHeartbeats 2000000
section
variable {w:World} {P B M n:Nat} {F:Nat→Fr} {h:Nat} {g:Int→Option Nat} {c:Nat} {key:Int}
theorem Take_any (p:PoolAt w P B M n F h g c) (hk:(Lit.int .i64 key).wf=true):
 Calls Tryz.prog 124 #[.pointer (some ⟨P,0,none⟩),.int .i64 key] w (TakePost P B M n (takeR n F h g key) w):=by
 cases hg:(g key).isSome
 · rcases first_spec (fun i=>!(F i).used) n with ⟨h1,h2⟩|⟨j,h1,h2,h3,h4⟩
   · cases hl:loose F n
     · exact Take_full p hk hg h1 hl
     · have hc:∃i,i<n∧(F i).cand=true:=by
        unfold loose at hl
        rcases first_spec (fun i=>(F i).pins==0) n with ⟨k1,k2⟩|⟨j,k1,k2,k3,k4⟩
        · rw [k1] at hl;cases hl
        · refine ⟨j,k2,?_⟩
          have hu:=h2 j k2
          simp at hu k3
          simp [Fr.cand,hu,k3]
       obtain ⟨i,hi,hci⟩:=hc
       obtain ⟨r,k1,k2,k3,k4⟩:=sw_some p.hand hi hci
       exact Take_give p hk hg h1 hl (r:=r) (F':=(sw n (2*n+1) h F).2) (by rw [←k1]) k2 (sw_form n p.pos (2*n+1) h F p.hand).1
   · exact Take_free p hk hg h1 h2
 · exact Take_used p hk hg
theorem used_yes (p:PoolAt w P B M n F h g c) (f:Nat) (hf:f<n) (hu:(F f).used=true):
 Calls Tryz.prog 147 #[.pointer (some ⟨P,0,none⟩),.int .i64 f] w fun e w'=>e=.returned (.pointer (some ⟨B,f*5,none⟩))∧w=w':=by
 have l0:=p.l0
 have c1:=(p.fr f hf).c1
 rw [hu] at c1
 have hn:=p.most
 clear hu
 go_enter Tryz.func147,Tryz.ntmps147
 go_wp2
 go_ret
 exact ⟨rfl,rfl⟩
end
theorem FrS.set {w:World} {B n k s:Nat} {F:Nat→Fr} {v:Value} {f:Fr} (h:FrS w B n F) (hk:k<n) (hs:s<5)
 (h0:s≠0→f.key=(F k).key) (h1:s≠1→f.used=(F k).used) (h2:s≠2→f.ref=(F k).ref) (h3:s≠3→f.dirty=(F k).dirty) (h4:s≠4→f.pins=(F k).pins)
 (e0:s=0→v=.int .i64 f.key) (e1:s=1→v=.bool f.used) (e2:s=2→v=.bool f.ref) (e3:s=3→v=.bool f.dirty) (e4:s=4→v=.int .i64 f.pins):
 FrS (w.setCell ⟨B,k*5+s,none⟩ v) B n (putF F k f):=by
 intro i hi
 have hi5:=h i hi
 have o:∀r,k*5+s≠r→(w.setCell ⟨B,k*5+s,none⟩ v).cell? ⟨B,r,none⟩=w.cell? ⟨B,r,none⟩:=fun r h1=>World.cell?_setCell_other _ _ _ _ (fun he=>by injection he with _ he;exact h1 he)
 unfold putF
 by_cases hik:i=k
 · subst hik
   rw [if_pos rfl]
   refine ⟨?_,?_,?_,?_,?_⟩
   · by_cases hr:s=0
     · subst hr;rw [←e0 rfl];exact World.cell?_setCell_same _ _ _ hi5.c0
     · rw [o _ (by omega),hi5.c0,h0 hr]
   · by_cases hr:s=1
     · subst hr;rw [←e1 rfl];exact World.cell?_setCell_same _ _ _ hi5.c1
     · rw [o _ (by omega),hi5.c1,h1 hr]
   · by_cases hr:s=2
     · subst hr;rw [←e2 rfl];exact World.cell?_setCell_same _ _ _ hi5.c2
     · rw [o _ (by omega),hi5.c2,h2 hr]
   · by_cases hr:s=3
     · subst hr;rw [←e3 rfl];exact World.cell?_setCell_same _ _ _ hi5.c3
     · rw [o _ (by omega),hi5.c3,h3 hr]
   · by_cases hr:s=4
     · subst hr;rw [←e4 rfl];exact World.cell?_setCell_same _ _ _ hi5.c4
     · rw [o _ (by omega),hi5.c4,h4 hr]
 · rw [if_neg hik]
   exact ⟨(o _ (by omega)).trans hi5.c0,(o _ (by omega)).trans hi5.c1,(o _ (by omega)).trans hi5.c2,(o _ (by omega)).trans hi5.c3,(o _ (by omega)).trans hi5.c4⟩
theorem PoolAt.set {w:World} {P B M n h c k s:Nat} {F:Nat→Fr} {g:Int→Option Nat} {v:Value} {f:Fr} (p:PoolAt w P B M n F h g c) (hk:k<n) (hs:s<5) (hs0:s≠0)
 (h0:f.key=(F k).key) (h1:s≠1→f.used=(F k).used) (h2:s≠2→f.ref=(F k).ref) (h3:s≠3→f.dirty=(F k).dirty) (h4:s≠4→f.pins=(F k).pins)
 (e1:s=1→v=.bool f.used) (e2:s=2→v=.bool f.ref) (e3:s=3→v=.bool f.dirty) (e4:s=4→v=.int .i64 f.pins):
 PoolAt (w.setCell ⟨B,k*5+s,none⟩ v) P B M n (putF F k f) h g c:=by
 refine p.frames (FrS.set p.fr hk hs (fun _=>h0) h1 h2 h3 h4 (fun e=>absurd e hs0) e1 e2 e3 e4) (fun j=>by rw [World.frozen?_setCell];exact p.fz j) ((Off.refl (· =B) w).setCell (p:=⟨B,k*5+s,none⟩) rfl _) (fun i hi=>?_)
 unfold putF
 split
 · rw [h0];exact p.kw k hk
 · exact p.kw i hi
def OpPost (P B M n:Nat) (e0:Int) (F:Nat→Fr) (h:Nat) (g:Int→Option Nat) (w:World) (e:Ending) (w':World):Prop:=
 e=.returned (.int .i64 e0)∧(∃c',PoolAt w' P B M n F h g c')∧Off (PB P B M) w w'
theorem put_put (F:Nat→Fr) (k:Nat) (a b:Fr):putF (putF F k a) k b=putF F k b:=by
 funext i;unfold putF;split<;>rfl
section
variable {w:World} {P B M n:Nat} {F:Nat→Fr} {h:Nat} {g:Int→Option Nat} {c:Nat}
theorem Touch_yes (p:PoolAt w P B M n F h g c) (f:Nat) (write:Bool) (hf:f<n) (hu:(F f).used=true):
 Calls Tryz.prog 122 #[.pointer (some ⟨P,0,none⟩),.int .i64 f,.bool write] w (OpPost P B M n 0 (putF F f {F f with ref:=true,dirty:=(F f).dirty||write}) h g w):=by
 have HU:=hJ (used_yes p f hf hu)
 have c2:=(p.fr f hf).c2
 have c3:=(p.fr f hf).c3
 have z2:=p.fz (f*5+2)
 have z3:=p.fz (f*5+3)
 have HX:Hid (∀b:Bool,b=((F f).dirty||write)→∀W,W=(w.setCell ⟨B,f*5+2,none⟩ (.bool true)).setCell ⟨B,f*5+3,none⟩ (.bool b)→∀e,e=.returned (.int .i64 0)→OpPost P B M n 0 (putF F f {F f with ref:=true,dirty:=(F f).dirty||write}) h g w e W):=by
  rintro b rfl W rfl e rfl
  refine ⟨rfl,⟨c,?_⟩,((Off.refl _ _).setCell (.inr (.inl rfl)) _).setCell (.inr (.inl rfl)) _⟩
  have p1:=p.set (f:={F f with ref:=true}) (s:=2) (v:=.bool true) hf (by omega) (by omega) rfl (fun _=>rfl) (fun e=>absurd rfl e) (fun _=>rfl) (fun _=>rfl) (fun e=>by omega) (fun _=>rfl) (fun e=>by omega) (fun e=>by omega)
  have p2:=p1.set (f:={F f with ref:=true,dirty:=(F f).dirty||write}) (s:=3) (v:=.bool ((F f).dirty||write)) hf (by omega) (by omega) (by simp [putF]) (fun _=>by simp [putF]) (fun _=>by simp [putF]) (fun e=>absurd rfl e) (fun _=>by simp [putF]) (fun e=>by omega) (fun e=>by omega) (fun _=>rfl) (fun e=>by omega)
  rw [put_put] at p2
  exact p2
 clear p hu
 go_enter Tryz.func122,Tryz.ntmps122
 go_wp2_with fail
 refine HU.out.mono ?_
 rintro e w1 ⟨rfl,rfl⟩
 go_wp2
 all_goals
  go_ret
  exact HX.out _ (by simp [*]) _ rfl _ rfl
end
set_option maxRecDepth 100000
set_option maxHeartbeats 2000000
theorem frame_info:(Tryz.prog.info? 214).map (fun i=>(i.zero,i.size,i.bytes))=some (some (.agg #[.int .i64 0,.bool false,.bool false,.bool false,.int .i64 0]),5,24):=by kernel_rfl
theorem made_at (z:Array Value) (m j:Nat) (hj:j<m):(madeCells z m)[j]? =some (z[j%z.size]!):=by
 unfold madeCells
 simp [hj]
def zeroCells (n:Nat):Array Value:=madeCells #[.int .i64 0,.bool false,.bool false,.bool false,.int .i64 0] (n*5)
theorem zero_at (n i:Nat) (hi:i<n):(zeroCells n)[i*5]? =some (.int .i64 0)∧(zeroCells n)[i*5+1]? =some (.bool false)∧(zeroCells n)[i*5+2]? =some (.bool false)∧(zeroCells n)[i*5+3]? =some (.bool false)∧(zeroCells n)[i*5+4]? =some (.int .i64 0):=by
 unfold zeroCells
 refine ⟨?_,?_,?_,?_,?_⟩
 all_goals
  rw [made_at _ _ _ (by omega)]
  simp only [List.size_toArray,List.length_cons,List.length_nil,Nat.zero_add,Nat.reduceAdd]
 · rw [show i*5%5=0 by omega];rfl
 · rw [show (i*5+1)%5=1 by omega];rfl
 · rw [show (i*5+2)%5=2 by omega];rfl
 · rw [show (i*5+3)%5=3 by omega];rfl
 · rw [show (i*5+4)%5=4 by omega];rfl
theorem run_make_frames (n:Nat) (hn:n≤4096) (w:World):
 (Instr.makeSlice 217 (.int .i64 (n:Int)) (.int .i64 (n:Int))).run Tryz.prog w=.ok (.slice (some ⟨w.heap.size,0,none⟩) n n) (w.alloc (.cells (zeroCells n) 214)):=by
 obtain ⟨i0,hi,hz0,hz1,hz2⟩:=info_parts frame_info
 have h:=run_make (P:=Tryz.prog) w 217 214 i0 _ Tryz.underlying217 hi hz0 .i64 .i64 n n (by omega) (by omega) (by rw [hz2];omega) (by omega)
 rw [h]
 simp [hz1,Value.cells,zeroCells]
def NewPost (n:Nat) (w:World) (e:Ending) (w':World):Prop:=
 ∃P B M,e=.returned (.tuple #[.pointer (some ⟨P,0,none⟩),.int .i64 0])∧PoolAt w' P B M n (fun _=>Fr.zero) 0 (fun _=>none) 0∧w.heap.size≤P∧w.heap.size≤B∧w.heap.size≤M∧Below w.heap.size w w'
theorem new_pool (w:World) (n:Nat) (h1:0<n) (h2:n≤4096) (t:TypeId):
 PoolAt (((w.alloc (.cells (zeroCells n) 214)).alloc (.map #[] 0)).alloc (.cells #[.slice (some ⟨w.heap.size,0,none⟩) n n,.map (some (w.heap.size+1)),.int .i64 0] t)) (w.heap.size+2) w.heap.size (w.heap.size+1) n (fun _=>Fr.zero) 0 (fun _=>none) 0:=by
 obtain ⟨w1,hw1⟩:∃w1,w1=w.alloc (.cells (zeroCells n) 214):=⟨_,rfl⟩
 obtain ⟨w2,hw2⟩:∃w2,w2=w1.alloc (.map #[] 0):=⟨_,rfl⟩
 rw [←hw1,←hw2]
 have s1:w1.heap.size=w.heap.size+1:=by rw [hw1];simp
 have s2:w2.heap.size=w.heap.size+2:=by rw [hw2];simp [s1]
 have b0:w1.heap[w.heap.size]? =some (.cells (zeroCells n) 214 (0,0)):=by rw [hw1];exact heap_alloc_new w _
 have b0':w2.heap[w.heap.size]? =some (.cells (zeroCells n) 214 (0,0)):=by rw [hw2,Below.heap_alloc _ _ _ (by omega)];exact b0
 have b1:MapIs Tryz.prog 242 w2 (w.heap.size+1) (fun _=>none) 0:=by
  rw [hw2,←s1];exact MapIs.made w1
 generalize hw3:w2.alloc (.cells #[.slice (some ⟨w.heap.size,0,none⟩) n n,.map (some (w.heap.size+1)),.int .i64 0] t)=w3
 have b3:w3.heap[w.heap.size+2]? =some (.cells #[.slice (some ⟨w.heap.size,0,none⟩) n n,.map (some (w.heap.size+1)),.int .i64 0] t (0,0)):=by rw [←hw3,←s2];exact heap_alloc_new w2 _
 have b03:w3.heap[w.heap.size]? =some (.cells (zeroCells n) 214 (0,0)):=by rw [←hw3,Below.heap_alloc _ _ _ (by omega)];exact b0'
 have b13:MapIs Tryz.prog 242 w3 (w.heap.size+1) (keyF fun _=>none) 0:=by
  have:(keyF fun _=>none)=fun _=>none:=by funext v;unfold keyF;cases nameOf v<;>rfl
  rw [this]
  exact b1.of_block (by rw [←hw3,Below.heap_alloc _ _ _ (by omega)])
 refine ⟨?_,?_,?_,fun i=>?_,fun i hi=>?_,fun j=>?_,b13,by omega,h1,h2,h1,fun _ _=>by decide⟩
 · rw [cell_of_row _ _ _ _ _ _ b3];rfl
 · rw [cell_of_row _ _ _ _ _ _ b3];rfl
 · rw [cell_of_row _ _ _ _ _ _ b3];rfl
 · simp [World.frozen?,b3]
 · obtain ⟨z0,z1,z2,z3,z4⟩:=zero_at n i hi
   refine ⟨?_,?_,?_,?_,?_⟩
   all_goals rw [cell_of_row _ _ _ _ _ _ b03]
   all_goals assumption
 · simp [World.frozen?,b03]
theorem New_any (w:World) (n:Nat) (h1:0<n) (h2:n≤4096):Calls Tryz.prog 97 #[.int .i64 n] w (NewPost n w):=by
 have hmk:=run_make_frames n h2
 have hmm:=@run_makeMap Tryz.prog
 have HX:Hid (∀t W,W=(((w.alloc (.cells (zeroCells n) 214)).alloc (.map #[] 0)).alloc (.cells #[.slice (some ⟨w.heap.size,0,none⟩) n n,.map (some (w.heap.size+1)),.int .i64 0] t))→∀e,e=.returned (.tuple #[.pointer (some ⟨w.heap.size+2,0,none⟩),.int .i64 0])→NewPost n w e W):=by
  rintro t W rfl e rfl
  exact ⟨_,_,_,rfl,new_pool w n h1 h2 t,by omega,by omega,by omega,((jB.alloc jN _).alloc (by simp) _).alloc (by simp;omega) _⟩
 go_enter Tryz.func97,Tryz.ntmps97
 go_wp2
 go_ret2
 exact HX.out _ _ rfl _ rfl
set_option maxRecDepth 100000
set_option maxHeartbeats 2000000
section
variable {w:World} {P B M n:Nat} {F:Nat→Fr} {h:Nat} {g:Int→Option Nat} {c:Nat}
def cntF (q:Fr→Bool) (F:Nat→Fr):Nat→Nat
 |0=>0
 |k+1=>cntF q F k+if q (F k) then 1 else 0
end
section
variable {w:World} {P B M n:Nat} {F:Nat→Fr} {h:Nat} {g:Int→Option Nat} {c:Nat}
theorem cntF_le (q:Fr→Bool) (F:Nat→Fr) (k:Nat):cntF q F k≤k:=by
 induction k with
 |zero=>simp [cntF]
 |succ k ih=>unfold cntF;split<;>omega
end
section
variable {w:World} {P B M n:Nat} {F:Nat→Fr} {h:Nat} {g:Int→Option Nat} {c:Nat}
theorem cntF_yes {q:Fr→Bool} {F:Nat→Fr} {k:Nat} (h:q (F k)=true):cntF q F (k+1)=cntF q F k+1:=by simp [cntF,h]
end
section
variable {w:World} {P B M n:Nat} {F:Nat→Fr} {h:Nat} {g:Int→Option Nat} {c:Nat}
theorem cntF_no {q:Fr→Bool} {F:Nat→Fr} {k:Nat} (h:q (F k)=false):cntF q F (k+1)=cntF q F k:=by simp [cntF,h]
end
section
variable {w:World} {P B M n:Nat} {F:Nat→Fr} {h:Nat} {g:Int→Option Nat} {c:Nat}
def qUsed (f:Fr):Bool:=f.used
end
section
variable {w:World} {P B M n:Nat} {F:Nat→Fr} {h:Nat} {g:Int→Option Nat} {c:Nat}
def qDirty (f:Fr):Bool:=f.dirty
end
section
variable {w:World} {P B M n:Nat} {F:Nat→Fr} {h:Nat} {g:Int→Option Nat} {c:Nat}
def qPinned (f:Fr):Bool:=decide (0<f.pins)
end
section
variable {w:World} {P B M n:Nat} {F:Nat→Fr} {h:Nat} {g:Int→Option Nat} {c:Nat}
theorem Count_any (p:PoolAt w P B M n F h g c):
 Calls Tryz.prog 82 #[.pointer (some ⟨P,0,none⟩)] w fun e w'=>e=.returned (.tuple #[.int .i64 (cntF qUsed F n:Nat),.int .i64 (cntF qDirty F n:Nat),.int .i64 (cntF qPinned F n:Nat)])∧Below w.heap.size w w':=by
 have l0:=p.l0
 have hn:=p.most
 have HP:=hJ p
 clear p
 go_enter Tryz.func82,Tryz.ntmps82
 go_wp2
 go_loopw [2,3,4,12] (fun u d q i wr=>∃(k a b x:Nat),k≤n∧i=.int .i64 k∧u=.int .i64 a∧d=.int .i64 b∧q=.int .i64 x∧a=cntF qUsed F k∧b=cntF qDirty F k∧x=cntF qPinned F k∧Below w.heap.size w wr) (fun _ _ _ i _=>n-(intOf i).toNat)
 case atStart=>exact ⟨0,0,0,0,Nat.zero_le _,rfl,rfl,rfl,rfl,rfl,rfl,rfl,Below.refl _ _⟩
 case round=>
  obtain ⟨k,a,b,x,hk,rfl,rfl,rfl,rfl,ha,hb,hx,hbl⟩:=hrel
  have a1:=cntF_le qUsed F k
  have b1:=cntF_le qDirty F k
  have x1:=cntF_le qPinned F k
  rw [←ha] at a1
  rw [←hb] at b1
  rw [←hx] at x1
  have HAB:Hid (a=cntF qUsed F k∧b=cntF qDirty F k∧x=cntF qPinned F k∧Below w.heap.size w wr):=⟨ha,hb,hx,hbl⟩
  by_cases hlt:k<n
  · obtain ⟨c0,c1,c2,c3,c4⟩:=(HP.out.up hbl).fr k hlt
    clear ha hb hx hbl
    cases hu:(F k).used<;>cases hd:(F k).dirty<;>by_cases hp:0<(F k).pins
    all_goals
     go_wp2
     go_roundw
     case rel=>
      obtain ⟨ha,hb,hx,hbl⟩:=HAB.out
      refine ⟨k+1,_,_,_,by omega,by go_num,by first|rfl|go_num,by first|rfl|go_num,by first|rfl|go_num,?_,?_,?_,hbl.alloc hbl.size _⟩
      · first|(rw [cntF_yes (q:=qUsed) hu,←ha];done)|(rw [cntF_no (q:=qUsed) hu];exact ha)
      · first|(rw [cntF_yes (q:=qDirty) hd,←hb];done)|(rw [cntF_no (q:=qDirty) hd];exact hb)
      · first|(rw [cntF_yes (q:=qPinned) (by simp [qPinned,hp]),←hx];done)|(rw [cntF_no (q:=qPinned) (by simp [qPinned];omega)];exact hx)
     case measure=>simp [intOf];omega
  · clear ha hb hx hbl
    go_wp2
    go_ret3
    obtain ⟨ha,hb,hx,hbl⟩:=HAB.out
    obtain rfl:n=k:=by omega
    exact ⟨by rw [←ha,←hb,←hx];rfl,hbl⟩
end
section
variable {w:World} {P B M n:Nat} {F:Nat→Fr} {h:Nat} {g:Int→Option Nat} {c:Nat}
theorem Clean_yes (p:PoolAt w P B M n F h g c) (f:Nat) (hf:f<n) (hu:(F f).used=true):
 Calls Tryz.prog 142 #[.pointer (some ⟨P,0,none⟩),.int .i64 f] w (OpPost P B M n 0 (putF F f {F f with dirty:=false}) h g w):=by
 have HU:=hJ (used_yes p f hf hu)
 have c3:=(p.fr f hf).c3
 have z3:=p.fz (f*5+3)
 have HX:Hid (OpPost P B M n 0 (putF F f {F f with dirty:=false}) h g w (.returned (.int .i64 0)) (w.setCell ⟨B,f*5+3,none⟩ (.bool false))):=
  ⟨rfl,⟨c,p.set (f:={F f with dirty:=false}) (s:=3) hf (by omega) (by omega) rfl (fun _=>rfl) (fun _=>rfl) (fun e=>absurd rfl e) (fun _=>rfl) (fun e=>by omega) (fun e=>by omega) (fun _=>rfl) (fun e=>by omega)⟩,(Off.refl _ _).setCell (.inr (.inl rfl)) _⟩
 clear p hu
 go_enter Tryz.func142,Tryz.ntmps142
 go_wp2_with fail
 refine HU.out.mono ?_
 rintro e w1 ⟨rfl,rfl⟩
 go_wp2
 go_ret
 exact HX.out
end
section
variable {w:World} {P B M n:Nat} {F:Nat→Fr} {h:Nat} {g:Int→Option Nat} {c:Nat}
end
section
variable {w:World} {P B M n:Nat} {F:Nat→Fr} {h:Nat} {g:Int→Option Nat} {c:Nat}
end
section
variable {w:World} {P B M n:Nat} {F:Nat→Fr} {h:Nat} {g:Int→Option Nat} {c:Nat}
end
section
variable {w:World} {P B M n:Nat} {F:Nat→Fr} {h:Nat} {g:Int→Option Nat} {c:Nat}
theorem Drop_yes (p:PoolAt w P B M n F h g c) (f:Nat) (hf:f<n) (hu:(F f).used=true) (h1:¬0<(F f).pins):
 Calls Tryz.prog 108 #[.pointer (some ⟨P,0,none⟩),.int .i64 f] w (OpPost P B M n 0 (putF F f Fr.zero) h (upd g (F f).key none) w):=by
 have HU:=hJ (used_yes p f hf hu)
 have c0:=(p.fr f hf).c0
 have c4:=(p.fr f hf).c4
 have l1:=p.l1
 have HP:=hJ p
 clear p hu
 go_enter Tryz.func108,Tryz.ntmps108
 go_wp2_with fail
 refine HU.out.mono ?_
 rintro e w1 ⟨rfl,rfl⟩
 go_upto_region 6 with (fail)
 go_still_tail 9,(by kernel_rfl)
 obtain ⟨k1,hk1⟩:=name_key (HP.out.kw f hf)
 obtain ⟨w5,hrun,hm,ho⟩:=HP.out.drew.mp.del (t:=218) nameKeyed Tryz.underlying218 hk1 0
 rw [keyF_del] at hm
 have p5:=HP.out.drew.mapped hm ho
 have o5:Off (PB P B M) w w5:=(Off.refl _ _).drew.trans (ho.mono fun k e=>.inr (.inr e))
 refine wpList_delete_run rfl _ _ _ _ rfl _ _ rfl rfl hrun ?_
 clear hrun hm ho hk1 l1 c0 c4
 obtain ⟨d0,d1,d2,d3,d4⟩:=p5.fr f hf
 have z0:=p5.fz (f*5)
 have z1:=p5.fz (f*5+1)
 have z2:=p5.fz (f*5+2)
 have z3:=p5.fz (f*5+3)
 have z4:=p5.fz (f*5+4)
 have hB:∀o,PB P B M (⟨B,o,none⟩:Addr).block:=fun o=>.inr (.inl rfl)
 have HX:Hid (∀W,W=(((((w5.setCell ⟨B,f*5,none⟩ (.int .i64 0)).setCell ⟨B,f*5+1,none⟩ (.bool false)).setCell ⟨B,f*5+2,none⟩ (.bool false)).setCell ⟨B,f*5+3,none⟩ (.bool false)).setCell ⟨B,f*5+4,none⟩ (.int .i64 0))→∀e,e=.returned (.int .i64 0)→OpPost P B M n 0 (putF F f Fr.zero) h (upd g (F f).key none) w e W):=by
  rintro W rfl e rfl
  exact ⟨rfl,⟨_,p5.put (f:=Fr.zero) hf (by decide)⟩,((((o5.setCell (hB _) _).setCell (hB _) _).setCell (hB _) _).setCell (hB _) _).setCell (hB _) _⟩
 clear p5 o5 hB HP HU
 go_wp2
 go_ret
 exact HX.out _ rfl _ rfl
end
section
variable {w:World} {P B M n:Nat} {F:Nat→Fr} {h:Nat} {g:Int→Option Nat} {c:Nat}
def AtPost (f:Fr) (e0:Int) (w:World) (e:Ending) (w':World):Prop:=e=.returned (.tuple #[f.val,.int .i64 e0])∧Below w.heap.size w w'
end
section
variable {w:World} {P B M n:Nat} {F:Nat→Fr} {h:Nat} {g:Int→Option Nat} {c:Nat}
theorem At_yes (p:PoolAt w P B M n F h g c) (f:Nat) (hf:f<n):
 Calls Tryz.prog 140 #[.pointer (some ⟨P,0,none⟩),.int .i64 f] w (AtPost (F f) 0 w):=by
 have l0:=p.l0
 have hn:=p.most
 obtain ⟨c0,c1,c2,c3,c4⟩:=p.fr f hf
 have ltP:=p.ltP
 have ltB:=p.ltB
 have q1:P<w.heap.size+1:=by omega
 have q2:B<w.heap.size+1:=by omega
 clear p
 go_enter Tryz.func140,Tryz.ntmps140
 go_wp2
 refine bodyPost_ret (v:=.tuple #[.agg #[.int .i64 (F f).key,.bool (F f).used,.bool (F f).ref,.bool (F f).dirty,.int .i64 (F f).pins],.int .i64 0]) (by simp [results,Tryz.results140,go_sem]) rfl ⟨rfl,?_⟩
 go_grown
end
section
variable {w:World} {P B M n:Nat} {F:Nat→Fr} {h:Nat} {g:Int→Option Nat} {c:Nat}
end
set_option maxRecDepth 100000
set_option maxHeartbeats 2000000
theorem PoolAt.congr {w:World} {P B M n h h' c:Nat} {F F':Nat→Fr} {g g':Int→Option Nat} (p:PoolAt w P B M n F h g c) (hF:∀i,i<n→F i=F' i) (hh:h=h') (hg:∀k,g k=g' k):PoolAt w P B M n F' h' g' c:=by
 subst hh
 have:g=g':=funext hg
 subst this
 exact ⟨p.l0,p.l1,p.l2,p.lz,fun i hi=>hF i hi ▸ p.fr i hi,p.fz,p.mp,p.ne,p.pos,p.most,p.hand,fun i hi=>hF i hi ▸ p.kw i hi⟩
structure TakeIs (n:Nat) (r:TakeR) (frame:Int) (out:Fr) (given:Bool) (e:Int) (F:Nat→Fr) (h:Nat) (g:Int→Option Nat):Prop where
 frame:r.frame=frame
 out:r.out=out
 given:r.given=given
 e:r.e=e
 F:∀i,i<n→r.F i=F i
 h:r.h=h
 g:∀k,r.g k=g k
theorem take_free {n h j:Nat} {F F':Nat→Fr} {g g':Int→Option Nat} {key:Int} (hg:g key=none) (hj:j<n) (hu:(F j).used=false) (hb:∀i,i<j→(F i).used=true)
 (hF:∀i,i<n→(if i=j then Fr.new key else F i)=F' i) (hgg:∀k,(if k=key then some j else g k)=g' k):TakeIs n (takeR n F h g key) j Fr.zero false 0 F' h g':=by
 have hf:freeAt F n=j:=first_is (q:=fun i=>!(F i).used) hj (by simp [hu]) (fun i hi=>by simp [hb i hi])
 have e:takeR n F h g key=⟨j,Fr.zero,false,0,putF F j (Fr.new key),h,upd g key (some j)⟩:=by
  unfold takeR
  rw [hg,hf,if_neg (by simp),if_pos (by omega)]
  rfl
 rw [e]
 exact ⟨rfl,rfl,rfl,rfl,hF,rfl,hgg⟩
theorem take_give {n h r h':Nat} {F F1 F':Nat→Fr} {g g':Int→Option Nat} {key:Int} (hg:g key=none) (hu:∀i,i<n→(F i).used=true) (hl:∃i,i<n∧(F i).pins=0) (hs:sw n (2*n+1) h F=((r:Int),F1)) (hh:(r+1)%n=h')
 (hF:∀i,i<n→(if i=r then Fr.new key else F1 i)=F' i) (hgg:∀k,(if k=key then some r else if k=(F1 r).key then none else g k)=g' k):TakeIs n (takeR n F h g key) r (F1 r) true 0 F' h' g':=by
 have hf:freeAt F n= -1:=first_none (q:=fun i=>!(F i).used) (fun i hi=>by simp [hu i hi])
 have hlo:loose F n=true:=by
  unfold loose
  obtain ⟨i,hi,hp⟩:=hl
  rcases first_spec (fun i=>(F i).pins==0) n with ⟨k1,k2⟩|⟨j,k1,k2,k3,k4⟩
  · have:=k2 i hi;simp [hp] at this
  · rw [k1];simp
 have e:takeR n F h g key=⟨r,F1 r,true,0,putF F1 r (Fr.new key),(r+1)%n,upd (upd g (F1 r).key none) key (some r)⟩:=by
  unfold takeR
  rw [hg,hf,if_neg (by simp),if_neg (by omega),if_pos hlo,hs]
  rfl
 rw [e]
 exact ⟨rfl,rfl,rfl,rfl,hF,hh,hgg⟩
set_option maxRecDepth 100000
set_option maxHeartbeats 2000000
structure Good (n:Nat) (F:Nat→Fr) (g:Int→Option Nat):Prop where
 a:∀j,j<n→(F j).used=true→g (F j).key=some j
 b:∀k j,g k=some j→j<n∧(F j).used=true∧(F j).key=k
theorem Good.put {n r:Nat} {F F1:Nat→Fr} {g:Int→Option Nat} {key:Int} (G:Good n F g) (hc:Cleared F F1) (hr:r<n) (hg:g key=none):
 Good n (putF F1 r (Fr.new key)) (upd (if (F1 r).used then upd g (F1 r).key none else g) key (some r)):=by
 have hother:∀k j,(if (F1 r).used then upd g (F1 r).key none else g) k=some j→j≠r∧g k=some j:=by
  intro k j h
  cases hu:(F1 r).used
  · rw [hu] at h
    simp only [Bool.false_eq_true,if_false] at h
    refine ⟨fun e=>?_,h⟩
    have:=(G.b k j h).2.1
    rw [e,←(hc r).2.1,hu] at this
    cases this
  · rw [hu] at h
    simp only [if_true] at h
    unfold upd at h
    split at h
    · cases h
    · rename_i hne
      refine ⟨fun e=>hne ?_,h⟩
      rw [←(G.b k j h).2.2,e,(hc r).1]
 refine ⟨fun j hj hu=>?_,fun k j h=>?_⟩
 · unfold putF at hu ⊢
   by_cases h1:j=r
   · rw [if_pos h1];simp [upd,Fr.new,h1]
   · rw [if_neg h1] at hu ⊢
     have hFj:(F j).used=true:=by rw [←(hc j).2.1];exact hu
     have hgj:=G.a j hj hFj
     rw [(hc j).1]
     have hne:(F j).key≠key:=fun e=>by rw [e,hg] at hgj;cases hgj
     unfold upd
     rw [if_neg hne]
     cases hu2:(F1 r).used
     · simpa using hgj
     · simp only [if_true]
       rw [if_neg,hgj]
       intro e
       have hr2:=G.a r hr (by rw [←(hc r).2.1];exact hu2)
       rw [←(hc r).1,←e,hgj] at hr2
       exact h1 (Option.some.inj hr2)
 · unfold upd at h
   by_cases h1:k=key
   · rw [if_pos h1] at h
     cases h
     unfold putF
     rw [if_pos rfl]
     exact ⟨hr,rfl,h1.symm⟩
   · rw [if_neg h1] at h
     obtain ⟨h2,h3⟩:=hother k j h
     obtain ⟨h4,h5,h6⟩:=G.b k j h3
     unfold putF
     rw [if_neg h2]
     exact ⟨h4,by rw [(hc j).2.1];exact h5,by rw [(hc j).1];exact h6⟩
end Go.Proofs.YtlhfjaagkgengaaGreat
