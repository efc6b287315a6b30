/- region: Map. region: Right, Find. region: Right. -/
import Derived.Test.YtlhfjaagkgengaaGreatPC14
namespace Go.Proofs.YtlhfjaagkgengaaGreat
set_option maxRecDepth 100000
set_option maxHeartbeats 8000000
open Go.RowKit
set_option linter.unusedVariables false
set_option linter.unusedSimpArgs false
theorem results_se {fn:Func} {p q:Tmp} (h:fn.results=#[.cell p 41,.cell q 32]) (tmps:Array Value) (w:World) (g1 g2:Nat) (A:Option Addr) (n c:Nat) (x:Int) (hp:tmps.getD p undef=.pointer (some ⟨g1,0,none⟩)) (hq:tmps.getD q undef=.pointer (some ⟨g2,0,none⟩)) (h1:w.cell? ⟨g1,0,none⟩=some (.slice A n c)) (h2:w.cell? ⟨g2,0,none⟩=some (.int .i64 x)):
 (results fn tmps).run Tryz.prog w=.ok (.tuple #[.slice A n c,.int .i64 x]) w:=by
 have l1:(loadVar 41 ⟨g1,0,none⟩).run Tryz.prog w=.ok (.slice A n c) w:=by simp [go_sem,h1]
 have l2:(loadVar 32 ⟨g2,0,none⟩).run Tryz.prog w=.ok (.int .i64 x) w:=by simp [go_sem,h2]
 have hp2:tmps[p]?.getD undef=.pointer (some ⟨g1,0,none⟩):=by rw [←hp];simp [Array.getD_eq_getD_getElem?]
 have hq2:tmps[q]?.getD undef=.pointer (some ⟨g2,0,none⟩):=by rw [←hq];simp [Array.getD_eq_getD_getElem?]
 simp [results,h,hp2,hq2,asAddr,l1,l2,Result.andThen]
structure MpAt (b8 b9:Nat) (A:Option Addr) (n c:Nat) (x:Int) (w:World):Prop where
 c8:w.cell? ⟨b8,0,none⟩=some (.slice A n c)
 f8:w.frozen? ⟨b8,0,none⟩=false
 c9:w.cell? ⟨b9,0,none⟩=some (.int .i64 x)
 f9:w.frozen? ⟨b9,0,none⟩=false
def mpO (b8 b9:Nat):Nat→Prop:=fun k=>k=b8∨k=b9
section
variable {b8 b9:Nat} {A:Option Addr} {n c:Nat} {x:Int} {w w':World} {S:Nat→Prop}
theorem MpAt.off (h:MpAt b8 b9 A n c x w) (ho:Off S w w') (hs:∀k,S k→¬mpO b8 b9 k):MpAt b8 b9 A n c x w':=
 ⟨(ho.cell (p:=⟨b8,0,none⟩) (lt_of_cell h.c8) (fun e=>hs _ e (.inl rfl))).trans h.c8,(ho.frozen (p:=⟨b8,0,none⟩) (lt_of_cell h.c8) (fun e=>hs _ e (.inl rfl))).trans h.f8,
  (ho.cell (p:=⟨b9,0,none⟩) (lt_of_cell h.c9) (fun e=>hs _ e (.inr rfl))).trans h.c9,(ho.frozen (p:=⟨b9,0,none⟩) (lt_of_cell h.c9) (fun e=>hs _ e (.inr rfl))).trans h.f9⟩
theorem MpAt.lt (h:MpAt b8 b9 A n c x w) {k:Nat} (hk:mpO b8 b9 k):k<w.heap.size:=by
 rcases hk with rfl|rfl
 · exact lt_of_cell h.c8
 · exact lt_of_cell h.c9
theorem MpAt.set (h:MpAt b8 b9 A n c x w) (hne:b8≠b9) (A':Option Addr) (n' c':Nat) (x':Int):
 MpAt b8 b9 A' n' c' x' ((w.setCell ⟨b8,0,none⟩ (.slice A' n' c')).setCell ⟨b9,0,none⟩ (.int .i64 x'))∧Off (mpO b8 b9) w ((w.setCell ⟨b8,0,none⟩ (.slice A' n' c')).setCell ⟨b9,0,none⟩ (.int .i64 x')):=by
 have o1:Off (· =b8) w (w.setCell ⟨b8,0,none⟩ (.slice A' n' c')):=(Off.refl (· =b8) w).setCell (p:=⟨b8,0,none⟩) rfl _
 have o2:Off (· =b9) (w.setCell ⟨b8,0,none⟩ (.slice A' n' c')) ((w.setCell ⟨b8,0,none⟩ (.slice A' n' c')).setCell ⟨b9,0,none⟩ (.int .i64 x')):=(Off.refl (· =b9) _).setCell (p:=⟨b9,0,none⟩) rfl _
 have k9:(w.setCell ⟨b8,0,none⟩ (.slice A' n' c')).cell? ⟨b9,0,none⟩=some (.int .i64 x):=(o1.cell (p:=⟨b9,0,none⟩) (lt_of_cell h.c9) (fun e=>hne e.symm)).trans h.c9
 have k8:=World.cell?_setCell_same w ⟨b8,0,none⟩ (.slice A' n' c') h.c8
 refine ⟨⟨(o2.cell (p:=⟨b8,0,none⟩) (lt_of_cell k8) (fun e=>hne e)).trans k8,?_,World.cell?_setCell_same _ _ _ k9,?_⟩,(o1.mono fun k e=>.inl e).trans (o2.mono fun k e=>.inr e)⟩
 · rw [World.frozen?_setCell,World.frozen?_setCell];exact h.f8
 · rw [World.frozen?_setCell,World.frozen?_setCell];exact h.f9
end
def mapSt (_:Bool) (_:Rg):Bool×Bool:=(false,false)
theorem mapSt_fold (L:List Rg):foldL mapSt true L=decide (L=[]):=by
 cases L with
 |nil=>rfl
 |cons x L=>rfl
theorem mapG_any (w:World) {A:Option Addr} (c:Nat) {L:List Rg} (hL:RgAt w A L) (hn:L.length≤10000) (lo hi p:Int) (hd:rightB lo hi p=true→piecesF L lo hi=[]→RgDist (L ++ [⟨lo,hi,p⟩])):
 Calls Tryz.prog 100 #[.slice A L.length c,.int .i64 lo,.int .i64 hi,.int .i64 p] w (RgPost w (mapF L lo hi p)):=by
 have HL:=hJ hL
 obtain ⟨b1,hb1⟩:∃b,rightB lo hi p=b:=⟨_,rfl⟩
 have HR:Hid (∀w,Calls Tryz.prog 143 #[.int .i64 lo,.int .i64 hi,.int .i64 p] w fun e w'=>e=.returned (.bool b1)∧w'=w):=hJ fun w=>by rw [←hb1];exact rright_any w lo hi p
 have HD:=hJ hd
 obtain ⟨R,hR⟩:∃R,mapF L lo hi p=R:=⟨_,rfl⟩
 have HRR:=hJ hR
 unfold mapF at HRR
 rw [hR]
 rw [hb1] at HD HRR
 clear hL hd hb1 hR
 refine (callsIn_wide (n:=9)).1 ?_
 refine callsIn_of_wp_marks Tryz.func100 rfl trivial ?_ rfl
 simp only [Tryz.ntmps100,List.size_toArray,List.length_cons,List.length_nil,Nat.reduceAdd,Nat.reduceSub,Array.replicate_succ,Array.replicate_zero,List.push_toArray,List.append_toArray,List.nil_append,List.cons_append]
 refine wpIn_wide.2 ?_
 go_upto_region 1 with (fail)
 refine wp_forget (fun W=>Below w.heap.size w W∧MpAt w.heap.size (w.heap.size+1) none 0 0 0 W∧W.heap.size=w.heap.size+2) ?_ ?_
 · have s1:(w.alloc (.cells #[.slice none 0 0] 41)).heap.size=w.heap.size+1:=by simp
   have b1:Below w.heap.size w (w.alloc (.cells #[.slice none 0 0] 41)):=jB.alloc jN _
   have c1:=alloc_at w (.slice none 0 0) 41
   generalize w.alloc (.cells #[.slice none 0 0] 41)=W1 at *
   have b2:Below W1.heap.size W1 (W1.alloc (.cells #[.int .i64 0] 32)):=jB.alloc jN _
   have c2:=alloc_at W1 (.int .i64 0) 32
   rw [s1] at c2
   exact ⟨b1.trans (b2.mono (by omega)),⟨(b2.cell (p:=⟨w.heap.size,0,none⟩) (by show w.heap.size<W1.heap.size;omega)).trans c1.1,(b2.frozen (p:=⟨w.heap.size,0,none⟩) (by show w.heap.size<W1.heap.size;omega)).trans c1.2,c2.1,c2.2⟩,by simp [s1]⟩
 rintro W0 ⟨hb0,hmp,hs0⟩
 obtain ⟨g8,hg8⟩:∃g,w.heap.size=g:=⟨_,rfl⟩
 obtain ⟨g9,hg9⟩:∃g,g8+1=g:=⟨_,rfl⟩
 rw [hg8,hg9] at hmp
 rw [hg8,hg9]
 have HB0:=hJ hb0
 have HMP:=hJ hmp
 have HS0:=hJ hs0
 have HG:=hJ (And.intro hg8 hg9)
 have c8:=hmp.c8
 have f8:=hmp.f8
 have c9:=hmp.c9
 have f9:=hmp.f9
 have l8:=lt_of_cell c8
 have l9:=lt_of_cell c9
 have HNE:Hid (g8≠g9):=hJ (by omega)
 clear hb0 hmp hs0 hg8 hg9
 have HEND:Hid (∀(Tm:Array Value) (V:World) (D:Nat) (A':Option Addr) (c':Nat),Tm.getD 8 undef=.pointer (some ⟨g8,0,none⟩)→Tm.getD 9 undef=.pointer (some ⟨g9,0,none⟩)→w.heap.size≤D→V.heap[D]? =some (.deferred (some []))→¬mpO g8 g9 D→MpAt g8 g9 A' R.1.length c' R.2 V→FrG w V (.slice A' R.1.length c') R.1→(Value.slice A' R.1.length c').ownBlock≠some D→bodyPostM Fence.wide 9 Tryz.prog Tryz.f100 (RgPost w R) .ret {tmps:=Tm,defers:=[{target:=.collected D,args:=#[]}]} V):=hJ fun Tm V D A' c' hT hT9 hD hd hne hm hf hnb=>by
  have ho:=off_putObj V (l:=D) (.deferred none)
  have hm2:=hm.off ho (fun k e e2=>by rw [e] at e2;exact hne e2)
  exact leaves_one hd (results_se rfl Tm _ g8 g9 _ _ _ _ hT hT9 hm2.c8 hm2.c9) ⟨A',c',rfl,hf.1.off ho (fun k e e2=>by rw [e2] at e;exact hnb e),hf.2.trans (ho.below (fun k e=>by rw [e];exact hD) hf.2.size)⟩
 cases b1 with
 | false=>
   have hr:R=([],1):=by rw [←HRR.out];rfl
   subst hr
   have hne:=HNE.out
   have hne2:¬g9=g8:=fun e=>hne e.symm
   go_wp2_with (go_at_call 143;refine (HR.out _).mono ?_;rintro e W0 ⟨rfl,rfl⟩)
   have hset:=HMP.out.set HNE.out none 0 0 1
   exact ⟨_,results_se rfl _ _ g8 g9 none 0 0 1 rfl rfl hset.1.c8 hset.1.c9,none,0,rfl,OwG.nil _ _,HB0.out.trans (hset.2.below (fun k e=>by have h1:=HG.out;rcases e with e|e<;>omega) HB0.out.size)⟩
 | true=>
   simp only [Bool.true_eq_false,if_false] at HRR
   have HPI:=hJ (pieces_any W0 c (HL.out.up HB0.out) (by omega) lo hi)
   go_wp2_with (first|(go_at_call 143;refine (HR.out _).mono ?_;rintro e W0 ⟨rfl,rfl⟩)|(go_at_call 144;refine HPI.out.mono ?_;rintro e W2 ⟨A',c',rfl,hpc,hb2,hs2,hrow⟩))
   have HMP2:Hid (MpAt g8 g9 none 0 0 0 W2):=hJ (HMP.out.off (S:=fun _=>False) (Off.of_below hb2) (fun _=>False.elim))
   have HPC:=hJ hpc
   have HB2:=hJ (HB0.out.trans (hb2.mono HB0.out.size))
   have HROW:=hJ hrow
   have HLT:Hid (∀k,mpO g8 g9 k→k<W0.heap.size):=hJ fun k hk=>HMP.out.lt hk
   have HS2:=hJ hs2
   clear hpc hb2 hs2 hrow HMP HPI HB0 c8 f8 c9 f9 l8 l9 HR
   refine (wpIn_wide (n:=9)).1 ?_
   refine range_list (E:=Rg) (args:=Rg.args) (Ov:=mpO g8 g9) (ent_fn Tryz.func168 (by kernel_rfl) rfl) rfl (fun x=>rfl) mapSt id (fun x e h=>rfl)
    (fun w O1 _=>(∀k,O1 k ↔ mpO g8 g9 k)∧MpAt g8 g9 none 0 0 0 w) (fun c w O1 _=>(∀k,O1 k ↔ mpO g8 g9 k)∧c=.ret∧MpAt g8 g9 none 0 0 3 w)
    (fun {S O w w' x} h ho hs=>⟨h.1,h.2.off ho (fun k e2 e3=>hs k e2 ((h.1 k).2 e3))⟩) (fun {O w x k} h hk=>h.2.lt ((h.1 k).1 hk))
    (fun {c S O w w' x} h ho hs=>⟨h.1,h.2.1,h.2.2.off ho (fun k e2 e3=>hs k e2 ((h.1 k).2 e3))⟩) (fun {c O w x k} h hk=>h.2.2.lt ((h.1 k).1 hk))
    ?a1 (fun e W W'=>True) true rfl (piecesF L lo hi) ⟨fun k=>Iff.rfl,HMP2.out⟩ ?iter ?assign ?body ?fin
   case iter=>
    intro Y V1 O1 hb hiv hO1
    refine pieces1_any Y (fun x e h=>rfl) hiv rfl (HPC.out.off (S:=fun _=>False) (Off.of_below hb) (fun _=>False.elim)) (fun k hk e=>?_) (by omega)
    have h1:W0.heap.size≤k:=by
     rcases hk with e|e|e|e
     · omega
     · omega
     · omega
     · exact HROW.out k e
    have h2:=HPC.out.lt hk
    rcases hO1 k e with e|e
    · have:=HLT.out k e;omega
    · omega
   case assign=>
    intro l x W' K hK
    have HK:=hJ hK
    clear hK
    simp only [Rg.args]
    gi_wp2
    exact HK.out _ jB trivial
   case body=>
    intro l x e V0 V1 V O1 hiv hx hb hrel hof hl hlt
    have c8:=hiv.2.c8
    have f8:=hiv.2.f8
    have c9:=hiv.2.c9
    have f9:=hiv.2.f9
    have l8:=lt_of_cell c8
    have l9:=lt_of_cell c9
    have HO1:=hJ hiv.1
    have HSET:=hJ (hiv.2.set HNE.out none 0 0 3)
    have hne:=HNE.out
    have hne2:¬g9=g8:=fun e=>hne e.symm
    clear hiv hof hlt hl
    gi_wp2
    exact ⟨rfl,O1,⟨HO1.out,rfl,HSET.out.1⟩,HSET.out.2.mono (fun k e=>(HO1.out k).2 e),fun k hk=>.inl hk⟩
   case fin=>
    intro D W4 O1 y hy hD hdf hof hO1
    have hDn:¬mpO g8 g9 D∧w.heap.size≤D∧W0.heap.size≤D:=by have h1:=HG.out;have h3:=HS0.out;have h5:=HS2.out;exact ⟨(by rintro (e|e)<;>omega),by omega,by omega⟩
    have hbw:Below w.heap.size w W4:=HB2.out.trans (hof.below (fun k e=>by have h1:=HG.out;rcases e with e|e<;>omega) HB2.out.size)
    have HBW:=hJ hbw
    have HDF:=hJ hdf
    rw [mapSt_fold] at hy
    refine ⟨fun hal hiv=>?_,fun hal c' hix=>?_⟩
    · have hpe:piecesF L lo hi=[]:=by
       rw [hy] at hal
       exact of_decide_eq_true hal
      have hr:R=(joinedR (L ++ [⟨lo,hi,p⟩]),0):=by rw [←HRR.out,if_neg (fun h=>h hpe)]
      have HDD:=hJ (HD.out (by trivial) hpe)
      obtain ⟨N,hN⟩:∃N,L ++ [(⟨lo,hi,p⟩:Rg)]=N:=⟨_,rfl⟩
      rw [hN] at HDD hr
      subst hr
      have HM:=hJ hiv.2
      have HCL:=hJ (cloneG_any W4 c (HL.out.up HBW.out) (by omega))
      have HPJ:Hid (∀w3 A1 c1,FrG W4 w3 (.slice A1 L.length c1) L→∃A' c' w',(Builtin.append_ #[41,41] 41 #[.slice A1 L.length c1,.slice (some ⟨w3.heap.size,0,none⟩) 1 1]).run Tryz.prog (w3.alloc (.cells #[.int .i64 lo,.int .i64 hi,.int .i64 p] 62))=.ok (.slice A' N.length c') w'∧
       Calls Tryz.prog 145 #[.slice A' N.length c'] w' fun e w5=>∃A2 c2,e=.returned (.slice A2 (joinedR N).length c2)∧FrG W4 w5 (.slice A2 (joinedR N).length c2) (joinedR N)):=hJ fun w3 A1 c1 h=>h.pushJoin lo hi p hN HDD.out (by omega)
      have HLD:=hJ (Array.getElem?_eq_some_iff.1 hdf).1
      have hne:=HNE.out
      have hne2:¬g9=g8:=fun e=>hne e.symm
      clear hbw hdf hof hO1 hy hal hpe hiv hN HRR HDD HD HROW HPC HMP2 HLT HB2
      go_wp2_with (first
       |(go_at_call 78;go_loud (refine HCL.out.mono ?_;rintro e w3 ⟨A1,c1,rfl,how,hb3⟩;obtain ⟨A2,c2,w4,hr2,hj⟩:=HPJ.out _ _ _ ⟨how,hb3⟩;have HJ:=hJ hj;clear how hb3 hj HPJ))
       |(at_builtin;go_must (refine wpList_append_run rfl (.tmp 21) (.tmp 26) 41 rfl _ _ rfl rfl hr2 ?_))
       |(go_at_call 145;go_loud (refine HJ.out.mono ?_;rintro e w5 ⟨A3,c3,rfl,hf⟩;have hm5:=HM.out.off (S:=fun _=>False) (Off.of_below hf.2) (fun _=>False.elim);have HM5:=hJ hm5;have HF5:=hJ hf;obtain ⟨c8,f8,c9,f9⟩:=hm5;have l8:=lt_of_cell c8;have l9:=lt_of_cell c9;clear hf)))
      have hset:=HM5.out.set HNE.out A3 (joinedR N).length c3 0
      have hf5:=HF5.out
      have hbm:∀k,mpO g8 g9 k→k<W4.heap.size:=fun k hk=>HM.out.lt hk
      have hb5:=HBW.out.trans (hf5.2.mono HBW.out.size)
      have hown:∀k,(Value.slice A3 (joinedR N).length c3).ownBlock=some k→W4.heap.size≤k:=fun k e=>(hf5.1.lt e).1
      have hLD:=HLD.out
      refine HEND.out _ _ D A3 c3 rfl rfl hDn.2.1 (heap_off ((hf5.2.block D hLD).trans HDF.out) hset.2 hDn.1) hDn.1 hset.1 ⟨(hf5.1.off hset.2 (fun k e e2=>by have:=hown k e;have:=hbm k e2;omega)).low HBW.out.size,hb5.trans (hset.2.below (fun k e=>by have h1:=HG.out;rcases e with e|e<;>omega) hb5.size)⟩ (fun e=>by have:=hown D e;omega)
    · obtain ⟨hO1b,rfl,hm⟩:=hix
      have hpe:piecesF L lo hi≠[]:=by
       rw [hy] at hal
       exact of_decide_eq_false hal
      have hr:R=([],3):=by rw [←HRR.out,if_pos hpe]
      subst hr
      have HM:=hJ hm
      clear hbw hdf hof hO1 hy hal hO1b hm hpe
      gi_wp2
      exact HEND.out _ _ D none 0 rfl rfl hDn.2.1 HDF.out hDn.1 HM.out ⟨OwG.nil _ _,HBW.out⟩ (fun e=>by cases e)
set_option maxRecDepth 100000
set_option maxHeartbeats 8000000
def findB (L:List Rg) (page:Int):Bool:=L.any fun r=>decide (r.lo≤page∧page<r.hi)
theorem results_rb {fn:Func} {p u:Tmp} (h:fn.results=#[.cell p 62,.tmp u]) (tmps:Array Value) (w:World) (g:Nat) (x y z:Int) (hp:tmps.getD p undef=.pointer (some ⟨g,0,none⟩)) (h0:Rg3 w g x y z):
 (results fn tmps).run Tryz.prog w=.ok (.tuple #[.agg #[.int .i64 x,.int .i64 y,.int .i64 z],tmps.getD u undef]) w:=by
 obtain ⟨c0,c1,c2⟩:=h0
 have l1:(loadVar 62 ⟨g,0,none⟩).run Tryz.prog w=.ok (.agg #[.int .i64 x,.int .i64 y,.int .i64 z]) w:=by simp [go_sem,c0,c1,c2]
 have hp2:tmps[p]?.getD undef=.pointer (some ⟨g,0,none⟩):=by rw [←hp];simp [Array.getD_eq_getD_getElem?]
 simp [results,h,hp2,asAddr,l1,Result.andThen,Array.getD_eq_getD_getElem?]
structure FndAt (b:Nat) (w:World):Prop where
 c:∃x y z,Rg3 w b x y z
 f:∀k,w.frozen? ⟨b,k,none⟩=false
theorem FndAt.off {b:Nat} {w w':World} {S:Nat→Prop} (h:FndAt b w) (ho:Off S w w') (hs:¬S b):FndAt b w':=by
 obtain ⟨⟨x,y,z,hr⟩,hf⟩:=h
 exact ⟨⟨x,y,z,hr.off ho hs⟩,fun k=>(ho.frozen (p:=⟨b,k,none⟩) (lt_of_cell hr.c0) hs).trans (hf k)⟩
theorem FndAt.new (w:World) (x y z:Int) (t:TypeId):FndAt w.heap.size (w.alloc (.cells #[.int .i64 x,.int .i64 y,.int .i64 z] t)):=⟨⟨x,y,z,Rg3.new w x y z t⟩,fun k=>by
 unfold World.frozen?
 rw [heap_alloc_new]
 simp⟩
theorem Rg3.set {w:World} {g:Nat} {a b c:Int} (h:Rg3 w g a b c) (x y z:Int):
 Rg3 (((w.setCell ⟨g,0,none⟩ (.int .i64 x)).setCell ⟨g,1,none⟩ (.int .i64 y)).setCell ⟨g,2,none⟩ (.int .i64 z)) g x y z∧Off (· =g) w (((w.setCell ⟨g,0,none⟩ (.int .i64 x)).setCell ⟨g,1,none⟩ (.int .i64 y)).setCell ⟨g,2,none⟩ (.int .i64 z)):=by
 have ne:∀a b:Nat,a≠b→(⟨g,a,none⟩:Addr)≠⟨g,b,none⟩:=fun a b h e=>by injection e with _ e;exact h e
 refine ⟨⟨?_,?_,?_⟩,(((Off.refl (· =g) w).setCell (p:=⟨g,0,none⟩) rfl _).setCell (p:=⟨g,1,none⟩) rfl _).setCell (p:=⟨g,2,none⟩) rfl _⟩
 · rw [World.cell?_setCell_other _ _ _ _ (ne _ _ (by omega)),World.cell?_setCell_other _ _ _ _ (ne _ _ (by omega))]
   exact World.cell?_setCell_same _ _ _ h.c0
 · rw [World.cell?_setCell_other _ _ _ _ (ne _ _ (by omega))]
   exact World.cell?_setCell_same _ _ _ ((World.cell?_setCell_other _ _ _ _ (ne _ _ (by omega))).trans h.c1)
 · exact World.cell?_setCell_same _ _ _ ((World.cell?_setCell_other _ _ _ _ (ne _ _ (by omega))).trans ((World.cell?_setCell_other _ _ _ _ (ne _ _ (by omega))).trans h.c2))
theorem any_take {α:Type} (L:List α) (p:α→Bool) {j:Nat} {r:α} (hr:L[j]? =some r) (hp:p r=true):L.any p=true:=by
 rw [List.any_eq_true]
 exact ⟨r,jG hr,hp⟩
theorem any_none {α:Type} (L:List α) (p:α→Bool) (h:∀(i:Nat) (x:α),L[i]? =some x→p x=false):L.any p=false:=by
 rw [List.any_eq_false]
 intro x hx
 obtain ⟨i,hi⟩:=List.mem_iff_getElem?.1 hx
 simp [h i x hi]
theorem findG_any (w:World) {A:Option Addr} (c:Nat) {L:List Rg} (hL:RgAt w A L) (hn:L.length≤100000) (page:Int):
 Calls Tryz.prog 120 #[.slice A L.length c,.int .i64 page] w fun e w'=>(∃x y z,e=.returned (.tuple #[.agg #[.int .i64 x,.int .i64 y,.int .i64 z],.bool (findB L page)]))∧Below w.heap.size w w':=by
 have HL:=hJ hL
 obtain ⟨R,hR⟩:∃R,findB L page=R:=⟨_,rfl⟩
 rw [hR]
 have HR:=hJ hR
 unfold findB at HR
 clear hL hR
 go_enter Tryz.func120,Tryz.ntmps120
 go_upto_region 1 with (fail)
 refine wp_forget (fun W=>Below w.heap.size w W∧FndAt w.heap.size W) ⟨jB.alloc jN _,FndAt.new w 0 0 0 62⟩ ?_
 rintro W0 ⟨hb0,hf0⟩
 obtain ⟨g4,hg4⟩:∃g,w.heap.size=g:=⟨_,rfl⟩
 rw [hg4] at hf0
 rw [hg4]
 have HG:=hJ hg4
 have HB0:=hJ hb0
 have HF0:=hJ hf0
 clear hb0 hf0 hg4
 go_wp2
 go_loopw [10,7] (fun i b7 wr=>∃(j:Nat),j≤L.length∧i=.int .i64 (j:Nat)∧Below w.heap.size w wr∧FndAt g4 wr∧∀i x,i<j→L[i]? =some x→decide (x.lo≤page∧page<x.hi)=false) (fun i _ _=>L.length-(intOf i).toNat)
 case atStart=>exact ⟨0,by omega,rfl,HB0.out,HF0.out,fun i x h=>by omega⟩
 case round=>
  obtain ⟨j,hj,rfl,hb,hf,hno⟩:=hrel
  have HB:=hJ hb
  have HF:=hJ hf
  have HNO:=hJ hno
  by_cases hjn:j<L.length
  · have hrow:=HL.out.up hb
    obtain ⟨g,o,hA,hg,hc⟩:=hrow.at_ (by omega)
    obtain ⟨r,hr⟩:∃r,L[j]? =some r:=⟨_,jE hjn⟩
    obtain ⟨q0,q1,q2⟩:=hc j r hr
    have hjI:(j:Int)<(L.length:Int):=by omega
    obtain ⟨ra,rb,rp⟩:=r
    simp only at q0 q1 q2
    rw [hA]
    have HRJ:=hJ hr
    clear hb hf hno hc hrow hr
    go_upto_region 4 with (fail)
    refine wp_forget (fun V=>Below wr.heap.size wr V∧Rg3 V wr.heap.size ra rb rp∧FndAt g4 V) ⟨jB.alloc jN _,Rg3.new wr ra rb rp 62,HF.out.off (S:=fun _=>False) (Off.of_below (jB.alloc jN _)) id⟩ ?_
    rintro V ⟨hbv,k7,hfv⟩
    obtain ⟨g7,hg7⟩:∃g,wr.heap.size=g:=⟨_,rfl⟩
    rw [hg7] at k7
    rw [hg7]
    have hbw:=HB.out.trans (hbv.mono HB.out.size)
    have HBV:=hJ hbw
    have HFV:=hJ hfv
    obtain ⟨x0,x1,x2⟩:=k7
    have lx:=lt_of_cell x0
    clear hbv hfv hbw q0 q1 q2 hg7 HB HF
    by_cases h1:ra≤page
    · by_cases h2:page<rb
      · obtain ⟨⟨y0,y1,y2,hy⟩,hfz⟩:=HFV.out
        obtain ⟨c0,c1,c2⟩:=hy
        have ly:=lt_of_cell c0
        have z0:=hfz 0
        have z1:=hfz 1
        have z2:=hfz 2
        clear hfz
        have HS:=hJ ((Rg3.mk c0 c1 c2).set ra rb rp)
        have hR:Hid (R=true):=hJ (by rw [←HR.out];exact any_take L _ HRJ.out (decide_eq_true ⟨h1,h2⟩))
        go_wp2
        (try simp only [Exit.inBlock,Exit.then]);refine bodyPost_ret (results_rb rfl _ _ g4 ra rb rp rfl HS.out.1) rfl ?_
        exact ⟨⟨_,_,_,by rw [hR.out];rfl⟩,HBV.out.trans (HS.out.2.below (fun k e=>by rw [e,HG.out];exact Nat.le_refl _) HBV.out.size)⟩
      · have hd2:decide (page<rb)=false:=decide_eq_false h2
        go_wp2
        go_roundw
        case rel=>exact ⟨j+1,by omega,by go_num,HBV.out,HFV.out,fun i x hi hx=>by
         by_cases e:i=j
         · subst e;have:=HRJ.out.symm.trans hx;cases this;exact decide_eq_false (fun h=>h2 h.2)
         · exact HNO.out i x (by omega) hx⟩
        case measure=>simp [intOf];omega
    · have hd1:decide (ra≤page)=false:=decide_eq_false h1
      go_wp2
      go_roundw
      case rel=>exact ⟨j+1,by omega,by go_num,HBV.out,HFV.out,fun i x hi hx=>by
       by_cases e:i=j
       · subst e;have:=HRJ.out.symm.trans hx;cases this;exact decide_eq_false (fun h=>h1 h.1)
       · exact HNO.out i x (by omega) hx⟩
      case measure=>simp [intOf];omega
  · obtain rfl:j=L.length:=by omega
    have hjj:¬(L.length:Int)<(L.length:Int):=by omega
    obtain ⟨⟨y0,y1,y2,hy⟩,hfz⟩:=HF.out
    obtain ⟨c0,c1,c2⟩:=hy
    have ly:=lt_of_cell c0
    have z0:=hfz 0
    have z1:=hfz 1
    have z2:=hfz 2
    clear hfz hb hf hno hjn
    have HS:=hJ ((Rg3.mk c0 c1 c2).set 0 0 0)
    have hR:Hid (R=false):=hJ (by rw [←HR.out];exact any_none L _ (fun i x hx=>HNO.out i x (jS.1 hx).1 hx))
    go_wp2
    (try simp only [Exit.inBlock,Exit.then]);refine bodyPost_ret (results_rb rfl _ _ g4 0 0 0 rfl HS.out.1) rfl ?_
    exact ⟨⟨_,_,_,by rw [hR.out];rfl⟩,HB.out.trans (HS.out.2.below (fun k e=>by rw [e,HG.out];exact Nat.le_refl _) HB.out.size)⟩
set_option maxRecDepth 100000
set_option maxHeartbeats 8000000
def goodS (pages:Int) (r:Rg):Bool:=decide (0≤r.lo∧r.lo<r.hi∧r.hi≤pages) && protB r.pr
def goodP (y r:Rg):Bool:=decide (y.hi≤r.lo∧¬(r.lo=y.hi∧r.pr=y.pr))
def goodAt (pages:Int) (L:List Rg) (i:Nat):Bool:=
 match L[i]? with
 |none=>true
 | some r=>goodS pages r && (match i with
   |0=>true
   | k+1=>match L[k]? with
     |none=>true
     |some y=>goodP y r)
def rightL (pages:Int) (L:List Rg):Bool:=(List.range L.length).all (goodAt pages L)
theorem right_no {pages:Int} {L:List Rg} {j:Nat} (hj:j<L.length) (h:goodAt pages L j=false):rightL pages L=false:=by
 unfold rightL
 rw [List.all_eq_false]
 exact ⟨j,by simp [hj],by simp [h]⟩
theorem right_yes {pages:Int} {L:List Rg} (h:∀i,i<L.length→goodAt pages L i=true):rightL pages L=true:=by
 unfold rightL
 rw [List.all_eq_true]
 intro i hi
 exact h i (by simpa using hi)
theorem good_s {pages:Int} {L:List Rg} {j:Nat} {r:Rg} (hr:L[j]? =some r) (h:goodS pages r=false):goodAt pages L j=false:=by
 unfold goodAt
 rw [hr]
 simp [h]
theorem good_z {pages:Int} {L:List Rg} {r:Rg} (hr:L[0]? =some r) (h:goodS pages r=true):goodAt pages L 0=true:=by
 unfold goodAt
 rw [hr]
 simp [h]
theorem good_k {pages:Int} {L:List Rg} {k:Nat} {r y:Rg} (hr:L[k+1]? =some r) (hy:L[k]? =some y) (h:goodS pages r=true):goodAt pages L (k+1)=goodP y r:=by
 unfold goodAt
 rw [hr]
 simp [h,hy]
theorem rightG_any (w:World) {A:Option Addr} (c:Nat) {L:List Rg} (hL:RgAt w A L) (hn:L.length≤100000) (pages:Int):
 Calls Tryz.prog 119 #[.slice A L.length c,.int .i64 pages] w fun e w'=>e=.returned (.bool (rightL pages L))∧Below w.heap.size w w':=by
 have HL:=hJ hL
 obtain ⟨R,hR⟩:∃R,rightL pages L=R:=⟨_,rfl⟩
 rw [hR]
 have HNO0:Hid (∀j,j<L.length→goodAt pages L j=false→R=false):=hJ fun j h1 h2=>by rw [←hR];exact right_no h1 h2
 have HYES:Hid ((∀i,i<L.length→goodAt pages L i=true)→R=true):=hJ fun h=>by rw [←hR];exact right_yes h
 clear hL hR
 go_enter Tryz.func119,Tryz.ntmps119
 go_wp2
 go_loopw [9,5,6] (fun i b5 b6 wr=>∃(j:Nat),j≤L.length∧i=.int .i64 (j:Nat)∧Below w.heap.size w wr∧∀i,i<j→goodAt pages L i=true) (fun i _ _ _=>L.length-(intOf i).toNat)
 case atStart=>exact ⟨0,by omega,rfl,Below.refl _ _,fun i h=>by omega⟩
 case round=>
  obtain ⟨j,hj,rfl,hb,hok⟩:=hrel
  have HB:=hJ hb
  have HOK:=hJ hok
  by_cases hjn:j<L.length
  · have hrow:=HL.out.up hb
    obtain ⟨g,o,hA,hg,hc⟩:=hrow.at_ (by omega)
    obtain ⟨r,hr⟩:∃r,L[j]? =some r:=⟨_,jE hjn⟩
    obtain ⟨q0,q1,q2⟩:=hc j r hr
    have hjI:(j:Int)<(L.length:Int):=by omega
    have HNO:=hJ (HNO0.out j hjn)
    have HROW:=hJ hrow
    have HRJ:=hJ hr
    obtain ⟨ra,rb,rp⟩:=r
    have HA:=hJ hA
    simp only at q0 q1 q2
    rw [hA]
    clear hb hok hc hrow hr hA
    go_upto_region 4 with (fail)
    refine wp_forget (fun V=>Below wr.heap.size wr V∧Rg3 V wr.heap.size ra rb rp) ⟨jB.alloc jN _,Rg3.new wr ra rb rp 62⟩ ?_
    rintro V ⟨hbv,k7⟩
    obtain ⟨g7,hg7⟩:∃g,wr.heap.size=g:=⟨_,rfl⟩
    rw [hg7] at k7
    rw [hg7]
    have HBV:=hJ hbv
    have HBW:=hJ (HB.out.trans (hbv.mono HB.out.size))
    obtain ⟨x0,x1,x2⟩:=k7
    have lx:=lt_of_cell x0
    clear hbv q0 q1 q2 hg7 HB hg
    by_cases h1:ra<0
    · have HV:Hid (R=false):=hJ (HNO.out (good_s HRJ.out (by unfold goodS;rw [decide_eq_false (by simp only;omega)];rfl)))
      have hd1:decide (ra<0)=true:=decide_eq_true h1
      go_wp2
      go_ret
      exact ⟨by rw [HV.out];rfl,HBW.out⟩
    have hd1:decide (ra<0)=false:=decide_eq_false h1
    by_cases h2:rb≤ra
    · have HV:Hid (R=false):=hJ (HNO.out (good_s HRJ.out (by unfold goodS;rw [decide_eq_false (by simp only;omega)];rfl)))
      have hd2:decide (rb≤ra)=true:=decide_eq_true h2
      go_wp2
      go_ret
      exact ⟨by rw [HV.out];rfl,HBW.out⟩
    have hd2:decide (rb≤ra)=false:=decide_eq_false h2
    by_cases h3:pages<rb
    · have HV:Hid (R=false):=hJ (HNO.out (good_s HRJ.out (by unfold goodS;rw [decide_eq_false (by simp only;omega)];rfl)))
      have hd3:decide (pages<rb)=true:=decide_eq_true h3
      go_wp2
      go_ret
      exact ⟨by rw [HV.out];rfl,HBW.out⟩
    have hd3:decide (pages<rb)=false:=decide_eq_false h3
    obtain ⟨b,hb⟩:∃b,protB rp=b:=⟨_,rfl⟩
    have HP:Hid (Calls Tryz.prog 158 #[.int .i64 rp] V fun e w'=>e=.returned (.bool b)∧w'=V):=hJ (by rw [←hb];exact prot_any V rp)
    have HGS:Hid (goodS pages ⟨ra,rb,rp⟩=b):=hJ (by unfold goodS;rw [decide_eq_true (by simp only;omega)];simpa using hb)
    clear hb
    cases b with
    | false=>
      have HV:Hid (R=false):=hJ (HNO.out (good_s HRJ.out HGS.out))
      go_wp2_with (go_at_call 158;refine HP.out.mono ?_;rintro e V ⟨rfl,rfl⟩)
      go_ret
      exact ⟨by rw [HV.out];rfl,HBW.out⟩
    | true=>
      go_upto_region 6 with (go_at_call 158;refine HP.out.mono ?_;rintro e V ⟨rfl,rfl⟩)
      clear h1 h2 h3 hd1 hd2 hd3 HP
      cases j with
      | zero=>
        have hz:decide ((0:Int)<((0:Nat):Int))=false:=by simp
        go_quiet (fail)
        go_wp2
        go_roundw
        case rel=>exact ⟨1,by omega,by go_num,(below_drewN HBW.out _),fun i hi=>by
         obtain rfl:i=0:=by omega
         exact good_z HRJ.out HGS.out⟩
        case measure=>simp [intOf];omega
      | succ k=>
        obtain ⟨y,hy⟩:∃y,L[k]? =some y:=⟨_,jE (by omega)⟩
        have HGK:=hJ (good_k HRJ.out hy HGS.out)
        obtain ⟨g',o',hA',hg',hc'⟩:=(HROW.out.up HBV.out).at_ (by omega)
        have hAA:=HA.out.symm.trans hA'
        injection hAA with hAA
        injection hAA with e1 e2
        subst e1 e2
        obtain ⟨z0,z1,z2⟩:=hc' k y hy
        obtain ⟨ya,yb,yp⟩:=y
        simp only at z0 z1 z2
        have hm:(0:Int)<((k+1:Nat):Int):=by omega
        have hi:IntKind.i64.wrap (((k+1:Nat):Int)-1)=(k:Int):=by rw [IntWalk.i64_in _ (by omega)];omega
        have hbk:(k:Int)<(L.length:Int):=by omega
        have hbn:k<L.length:=by omega
        clear hc' hy hA'
        unfold goodP at HGK
        simp only at HGK
        have HOK2:Hid (goodAt pages L (k+1)=true→∀i,i<k+1+1→goodAt pages L i=true):=hJ fun h i hi=>by
         by_cases e:i=k+1
         · subst e;exact h
         · exact HOK.out i (by omega)
        by_cases h1:ra<yb
        · have HV:Hid (R=false):=hJ (HNO.out (by rw [HGK.out];exact decide_eq_false (by omega)))
          have hd1:decide (ra<yb)=true:=decide_eq_true h1
          go_quiet (fail)
          go_wp2
          go_ret
          exact ⟨by rw [HV.out];rfl,(below_drewN HBW.out _)⟩
        have hd1:decide (ra<yb)=false:=decide_eq_false h1
        by_cases h2:ra=yb
        · by_cases h3:rp=yp
          · have HV:Hid (R=false):=hJ (HNO.out (by rw [HGK.out];exact decide_eq_false (by omega)))
            have hb2:(ra==yb)=true:=by simp [h2]
            have hb3:(rp==yp)=true:=by simp [h3]
            clear h2 h3 h1
            go_quiet (fail)
            go_wp2
            go_ret
            exact ⟨by rw [HV.out];rfl,(below_drewN HBW.out _)⟩
          · have HV:Hid (goodAt pages L (k+1)=true):=hJ (by rw [HGK.out];exact decide_eq_true (by omega))
            have hb2:(ra==yb)=true:=by simp [h2]
            have hb3:(rp==yp)=false:=by simp [h3]
            clear h2 h3 h1
            go_quiet (fail)
            go_wp2
            go_roundw
            case rel=>exact ⟨k+1+1,by omega,by go_num,(below_drewN HBW.out _),HOK2.out HV.out⟩
            case measure=>simp [intOf];omega
        · have HV:Hid (goodAt pages L (k+1)=true):=hJ (by rw [HGK.out];exact decide_eq_true (by omega))
          have hb2:(ra==yb)=false:=by simp [h2]
          clear h2 h1
          go_quiet (fail)
          go_wp2
          go_roundw
          case rel=>exact ⟨k+1+1,by omega,by go_num,(below_drewN HBW.out _),HOK2.out HV.out⟩
          case measure=>simp [intOf];omega
  · obtain rfl:j=L.length:=by omega
    have hjj:¬(L.length:Int)<(L.length:Int):=by omega
    have HV:Hid (R=true):=hJ (HYES.out fun i hi=>HOK.out i hi)
    clear hok hjn hb
    go_wp2
    go_ret
    exact ⟨by rw [HV.out];rfl,HB.out⟩
end Go.Proofs.YtlhfjaagkgengaaGreat
