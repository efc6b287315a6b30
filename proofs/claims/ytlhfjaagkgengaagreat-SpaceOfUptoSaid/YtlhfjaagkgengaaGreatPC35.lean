/- The document's machine: what an operation makes of regions. The document's machine: Right. -/
import Derived.Test.YtlhfjaagkgengaaGreatPC34
namespace Go.Proofs.YtlhfjaagkgengaaGreat
set_option maxRecDepth 100000
set_option maxHeartbeats 8000000
open Go.RowKit Go.Maps
set_option linter.unusedVariables false
set_option linter.unusedSimpArgs false
def regF (D:SpD) (R:List Rg) (kind at_ n prot:Int):List Rg×Int:=if kind=2 then mappedF D R at_ n prot else if kind=3 then unmappedF D R at_ n else protectedF D R at_ n prot
def MrPost (w:World) (R:List Rg×Int) (e:Ending) (w':World):Prop:=
 ∃A' n' c',e=.returned (.tuple #[.slice A' n' c',.int .i64 R.2])∧Below w.heap.size w w'∧(R.2=0→n'=R.1.length∧FrG w w' (.slice A' n' c') R.1)
theorem i64_small {a b:Int} (h1:0≤a∧a≤4294967296) (h2:0≤b∧b≤4294967296):IntKind.i64.wrap (a+b)=a+b:=IntWalk.i64_in _ (by omega)
section
variable {w w':World} {D:MaD} {B:List Bool} {Q:List (Option Nat)} {p:MPr}
theorem fit_post {w w1:World} {D:SpD} {R:List Rg×Int} {A':Option Addr} {c':Nat} (hf:FrG w w1 (.slice A' R.1.length c') R.1):
 (R.2=0→(D.rg:Int)<R.1.length→MrPost w (fitF D R) (.returned (.tuple #[.slice A' R.1.length c',.int .i64 6])) w1)∧
 (R.2=0→¬(D.rg:Int)<R.1.length→MrPost w (fitF D R) (.returned (.tuple #[.slice A' R.1.length c',.int .i64 0])) w1)∧
 (R.2≠0→MrPost w (fitF D R) (.returned (.tuple #[.slice A' R.1.length c',.int .i64 R.2])) w1):=by
 refine ⟨fun h1 h2=>?_,fun h1 h2=>?_,fun h1=>?_⟩
 · unfold fitF
   rw [if_pos ⟨h1,h2⟩]
   exact ⟨_,_,_,rfl,hf.2,fun e=>by cases e⟩
 · unfold fitF
   rw [if_neg (fun e=>h2 e.2)]
   exact ⟨_,_,_,by rw [h1],hf.2,fun _=>⟨rfl,hf⟩⟩
 · unfold fitF
   rw [if_neg (fun e=>h1 e.1)]
   exact ⟨_,_,_,rfl,hf.2,fun e=>absurd e h1⟩
theorem maMap_any (h:MaF w D B Q) (hp:PrAt w D.z p) (hr:rightL D.ps p.R=true) (hn:p.R.length≤1000) (pid at_ n prot:Int) (d:Value):
 Calls Tryz.prog 113 #[.pointer (some ⟨D.X,0,none⟩),.pointer (some ⟨p.X,0,none⟩),.agg #[.int .i64 2,.int .i64 pid,.int .i64 at_,.int .i64 n,.int .i64 prot,d]] w (MrPost w (mappedF D.sd p.R at_ n prot)):=by
 have hbx:Below w.heap.size w (w.alloc (.cells #[.int .i64 2,.int .i64 pid,.int .i64 at_,.int .i64 n,.int .i64 prot,d] 47)):=jB.alloc jN _
 have hnw:=heap_alloc_new w (.cells #[.int .i64 2,.int .i64 pid,.int .i64 at_,.int .i64 n,.int .i64 prot,d] 47)
 have hcell:∀k v,(#[.int .i64 2,.int .i64 pid,.int .i64 at_,.int .i64 n,.int .i64 prot,d]:Array Value)[k]? =some v→(w.alloc (.cells #[.int .i64 2,.int .i64 pid,.int .i64 at_,.int .i64 n,.int .i64 prot,d] 47)).cell? ⟨w.heap.size,k,none⟩=some v:=fun k v hv=>by
  rw [cell_of_row _ _ _ _ _ _ hnw];exact hv
 have b0:=hcell 0 _ rfl
 have b2:=hcell 2 _ rfl
 have b3:=hcell 3 _ rfl
 have b4:=hcell 4 _ rfl
 have hri:=right_iff.1 hr
 have hprs:∀r∈p.R,r.pr≠ -1:=fun r hr=>by have:=hri.2 r hr;omega
 have hm2:=h.up hbx
 have hp2:=hp.up hbx
 have c7:=h.cc 7 (by omega)
 rw [h.er] at c7
 have lX:=h.ltX
 go_enter Tryz.func113,Tryz.ntmps113
 go_upto_region 1 with (fail)
 generalize w.alloc (.cells #[.int .i64 2,.int .i64 pid,.int .i64 at_,.int .i64 n,.int .i64 prot,d] 47)=wa at *
 obtain ⟨bx,hbxe⟩:∃bx,w.heap.size=bx:=⟨_,rfl⟩
 rw [hbxe] at b0 b2 b3 b4 ⊢
 have lb:=lt_of_cell b0
 have HST:=hJ (maStretch_any hm2 at_ n)
 have lP:=hp2.ltX
 have p0:=hp2.c0
 have hb8:=hm2.sok.b8
 change 1≤D.ps∧D.ps≤65536 at hb8
 have HB1:Hid (Below w.heap.size w wa):=hJ hbx
 by_cases hpg:pagesB D.sd at_ n=true
 · have hpg2:1≤n∧0≤at_∧n≤(D.ps:Int)∧at_≤(D.ps:Int)-n:=of_decide_eq_true hpg
   have hsum:IntKind.i64.wrap (at_+n)=at_+n:=i64_small (by omega) (by omega)
   have hfull:mappedF D.sd p.R at_ n prot=fitF D.sd (mapF p.R at_ (at_+n) prot):=by unfold mappedF;rw [if_neg (by rw [hpg];simp)]
   have HCO:Hid (∀V,Below wa.heap.size wa V→Calls Tryz.prog 152 #[p.rv,.int .i64 at_,.int .i64 (at_+n),.int .i64 prot] V fun e w'=>∃A' c',e=.returned (.tuple #[.slice A' (mapF p.R at_ (at_+n) prot).1.length c',.int .i64 (mapF p.R at_ (at_+n) prot).2])∧FrG w w' (.slice A' (mapF p.R at_ (at_+n) prot).1.length c') (mapF p.R at_ (at_+n) prot).1):=hJ fun V hV=>by
    have hw:=HB1.out.trans (hV.mono HB1.out.size)
    refine (rMap_any V p.Rc ((hp2.rg).up hV) (by omega) hri.1 hprs at_ (at_+n) prot).mono ?_
    rintro e w' ⟨A',c',he,hf⟩
    exact ⟨A',c',he,OwG.low hf.1 hw.size,hw.trans (hf.2.mono hw.size)⟩
   rw [hpg] at HST
   have HBADP:Hid (prot<0∨3<prot→MrPost w (mappedF D.sd p.R at_ n prot) (.returned (.tuple #[.slice none 0 0,.int .i64 1])) wa):=hJ fun e=>by
    have hb:rightB at_ (at_+n) prot=false:=rightB_no (by omega)
    have e2:mapF p.R at_ (at_+n) prot=([],1):=by unfold mapF;rw [if_pos hb]
    rw [hfull,e2]
    unfold fitF
    rw [if_neg (by simp)]
    exact ⟨_,_,_,rfl,HB1.out,fun e=>by cases e⟩
   have HFP:=hJ (fun (w1:World) (A':Option Addr) (c':Nat) (hf:FrG w w1 (.slice A' (mapF p.R at_ (at_+n) prot).1.length c') (mapF p.R at_ (at_+n) prot).1)=>by
    have hfp:=fit_post (D:=D.sd) (R:=mapF p.R at_ (at_+n) prot) hf
    rw [←hfull] at hfp
    exact hfp)
   obtain ⟨R,hR⟩:∃R:List Rg×Int,mapF p.R at_ (at_+n) prot=R:=⟨_,rfl⟩
   rw [hR] at HCO HFP
   obtain ⟨L,er⟩:=R
   obtain ⟨N,hN⟩:∃N,L.length=N:=⟨_,rfl⟩
   simp only [hN,MaD.sd] at HCO HFP
   unfold MPr.rv at p0
   clear h hp hr hri hprs hm2 hp2 hcell hnw hbx hpg hpg2 hfull hR hN hbxe
   by_cases hw1:prot<0
   · clear HFP HCO
     go_wp2_with (go_at_call 151;refine HST.out.mono ?_;rintro e w' ⟨rfl,rfl⟩)
     go_ret2
     exact HBADP.out (by omega)
   by_cases hw2:3<prot
   · clear HFP HCO
     go_wp2_with (go_at_call 151;refine HST.out.mono ?_;rintro e w' ⟨rfl,rfl⟩)
     go_ret2
     exact HBADP.out (by omega)
   clear HBADP
   go_upto_region 10 with (go_at_call 151;refine HST.out.mono ?_;rintro e w' ⟨rfl,rfl⟩)
   refine wp_region_up_tail 12 (by kernel_rfl) (by kernel_rfl) (by kernel_rfl) ?_
   simp only [List.take_succ_cons,List.take_zero,List.drop_succ_cons,List.drop_zero]
   repeat (go_big_quiet_step (fail))
   refine wpQuiet_nil ?_
   rintro _ ⟨g,rfl⟩
   go_wp2_with fail
   refine (HCO.out _ g.h).mono ?_
   rintro e w3 ⟨A3,c3,rfl,hf3⟩
   have HF3:=hJ (HFP.out w3 A3 c3 hf3)
   have c73:=(hf3.2.cell (p:=⟨D.X,7,none⟩) lX).trans c7
   have lX3:=Nat.lt_of_lt_of_le lX hf3.2.size
   clear hf3 HFP HCO HST
   by_cases her:er=0
   · subst her
     by_cases hlen:(D.rg:Int)<(N:Int)
     · have hd2:decide (D.rg<N)=true:=decide_eq_true (by omega)
       have HG:=hJ (HF3.out.1 rfl hlen)
       clear HF3
       go_wp2
       go_ret2
       exact HG.out
     · have hd2:decide (D.rg<N)=false:=decide_eq_false (by omega)
       have HG:=hJ (HF3.out.2.1 rfl (Int.not_lt.1 hlen))
       clear HF3
       go_wp2
       go_ret2
       exact HG.out
   · have hd1:(er==0)=false:=beq_eq_false_iff_ne.2 her
     have HG:=hJ (HF3.out.2.2 her)
     clear her HF3
     go_wp2
     go_ret2
     exact HG.out
 · have hpf:pagesB D.sd at_ n=false:=by
    cases hc:pagesB D.sd at_ n with
    |true=>exact absurd hc hpg
    |false=>rfl
   have HNO:Hid (MrPost w (mappedF D.sd p.R at_ n prot) (.returned (.tuple #[.slice none 0 0,.int .i64 1])) wa):=hJ (by
    unfold mappedF
    rw [if_pos hpf]
    exact ⟨_,_,_,rfl,HB1.out,fun e=>by cases e⟩)
   rw [hpf] at HST
   clear h hp hr hri hprs hm2 hp2 hcell hnw hbx hpg hpf hbxe
   go_wp2_with (go_at_call 151;refine HST.out.mono ?_;rintro e w' ⟨rfl,rfl⟩)
   go_ret2
   exact HNO.out
theorem maUnmap_any (h:MaF w D B Q) (hp:PrAt w D.z p) (hr:rightL D.ps p.R=true) (hn:p.R.length≤1000) (pid at_ n prot:Int) (d:Value):
 Calls Tryz.prog 113 #[.pointer (some ⟨D.X,0,none⟩),.pointer (some ⟨p.X,0,none⟩),.agg #[.int .i64 3,.int .i64 pid,.int .i64 at_,.int .i64 n,.int .i64 prot,d]] w (MrPost w (unmappedF D.sd p.R at_ n)):=by
 have hbx:Below w.heap.size w (w.alloc (.cells #[.int .i64 3,.int .i64 pid,.int .i64 at_,.int .i64 n,.int .i64 prot,d] 47)):=jB.alloc jN _
 have hnw:=heap_alloc_new w (.cells #[.int .i64 3,.int .i64 pid,.int .i64 at_,.int .i64 n,.int .i64 prot,d] 47)
 have hcell:∀k v,(#[.int .i64 3,.int .i64 pid,.int .i64 at_,.int .i64 n,.int .i64 prot,d]:Array Value)[k]? =some v→(w.alloc (.cells #[.int .i64 3,.int .i64 pid,.int .i64 at_,.int .i64 n,.int .i64 prot,d] 47)).cell? ⟨w.heap.size,k,none⟩=some v:=fun k v hv=>by
  rw [cell_of_row _ _ _ _ _ _ hnw];exact hv
 have b0:=hcell 0 _ rfl
 have b2:=hcell 2 _ rfl
 have b3:=hcell 3 _ rfl
 have b4:=hcell 4 _ rfl
 have hri:=right_iff.1 hr
 have hprs:∀r∈p.R,r.pr≠ -1:=fun r hr=>by have:=hri.2 r hr;omega
 have hm2:=h.up hbx
 have hp2:=hp.up hbx
 have c7:=h.cc 7 (by omega)
 rw [h.er] at c7
 have lX:=h.ltX
 go_enter Tryz.func113,Tryz.ntmps113
 go_upto_region 1 with (fail)
 generalize w.alloc (.cells #[.int .i64 3,.int .i64 pid,.int .i64 at_,.int .i64 n,.int .i64 prot,d] 47)=wa at *
 obtain ⟨bx,hbxe⟩:∃bx,w.heap.size=bx:=⟨_,rfl⟩
 rw [hbxe] at b0 b2 b3 b4 ⊢
 have lb:=lt_of_cell b0
 have HST:=hJ (maStretch_any hm2 at_ n)
 have lP:=hp2.ltX
 have p0:=hp2.c0
 have hb8:=hm2.sok.b8
 change 1≤D.ps∧D.ps≤65536 at hb8
 have HB1:Hid (Below w.heap.size w wa):=hJ hbx
 by_cases hpg:pagesB D.sd at_ n=true
 · have hpg2:1≤n∧0≤at_∧n≤(D.ps:Int)∧at_≤(D.ps:Int)-n:=of_decide_eq_true hpg
   have hsum:IntKind.i64.wrap (at_+n)=at_+n:=i64_small (by omega) (by omega)
   have hfull:unmappedF D.sd p.R at_ n=fitF D.sd (((cutR p.R at_ (at_+n),0):List Rg×Int)):=by unfold unmappedF;rw [if_neg (by rw [hpg];simp)]
   have HCO:Hid (∀V,Below wa.heap.size wa V→Calls Tryz.prog 153 #[p.rv,.int .i64 at_,.int .i64 (at_+n)] V fun e w'=>∃A' c',e=.returned (Value.slice A' (((cutR p.R at_ (at_+n),0):List Rg×Int)).1.length c')∧FrG w w' (.slice A' (((cutR p.R at_ (at_+n),0):List Rg×Int)).1.length c') (((cutR p.R at_ (at_+n),0):List Rg×Int)).1):=hJ fun V hV=>by
    have hw:=HB1.out.trans (hV.mono HB1.out.size)
    refine (rUnmap_any V p.Rc ((hp2.rg).up hV) (by omega) hri.1 hprs (by omega) (by omega)).mono ?_
    rintro e w' ⟨A',c',he,hf⟩
    exact ⟨A',c',he,OwG.low hf.1 hw.size,hw.trans (hf.2.mono hw.size)⟩
   rw [hpg] at HST
   have HFP:=hJ (fun (w1:World) (A':Option Addr) (c':Nat) (hf:FrG w w1 (.slice A' (((cutR p.R at_ (at_+n),0):List Rg×Int)).1.length c') (((cutR p.R at_ (at_+n),0):List Rg×Int)).1)=>by
    have hfp:=fit_post (D:=D.sd) (R:=((cutR p.R at_ (at_+n),0):List Rg×Int)) hf
    rw [←hfull] at hfp
    exact hfp)
   obtain ⟨R,hR⟩:∃R:List Rg×Int,((cutR p.R at_ (at_+n),0):List Rg×Int)=R:=⟨_,rfl⟩
   rw [hR] at HCO HFP
   obtain ⟨L,er⟩:=R
   obtain rfl:er=0:=(congrArg Prod.snd hR).symm
   obtain ⟨N,hN⟩:∃N,L.length=N:=⟨_,rfl⟩
   simp only [hN,MaD.sd] at HCO HFP
   unfold MPr.rv at p0
   clear h hp hr hri hprs hm2 hp2 hcell hnw hbx hpg hpg2 hfull hR hN hbxe
   go_upto_region 12 with (go_at_call 151;refine HST.out.mono ?_;rintro e w' ⟨rfl,rfl⟩)
   refine wp_region_up_tail 11 (by kernel_rfl) (by kernel_rfl) (by kernel_rfl) ?_
   simp only [List.take_succ_cons,List.take_zero,List.drop_succ_cons,List.drop_zero]
   repeat (go_big_quiet_step (fail))
   refine wpQuiet_nil ?_
   rintro _ ⟨g,rfl⟩
   go_wp2_with fail
   refine (HCO.out _ g.h).mono ?_
   rintro e w3 ⟨A3,c3,rfl,hf3⟩
   have HF3:=hJ (HFP.out w3 A3 c3 hf3)
   have c73:=(hf3.2.cell (p:=⟨D.X,7,none⟩) lX).trans c7
   have lX3:=Nat.lt_of_lt_of_le lX hf3.2.size
   clear hf3 HFP HCO HST
   by_cases hlen:(D.rg:Int)<(N:Int)
   · have hd2:decide (D.rg<N)=true:=decide_eq_true (by omega)
     have HG:=hJ (HF3.out.1 trivial hlen)
     clear HF3
     go_wp2
     go_ret2
     exact HG.out
   · have hd2:decide (D.rg<N)=false:=decide_eq_false (by omega)
     have HG:=hJ (HF3.out.2.1 trivial (Int.not_lt.1 hlen))
     clear HF3
     go_wp2
     go_ret2
     exact HG.out
 · have hpf:pagesB D.sd at_ n=false:=by
    cases hc:pagesB D.sd at_ n with
    |true=>exact absurd hc hpg
    |false=>rfl
   have HNO:Hid (MrPost w (unmappedF D.sd p.R at_ n) (.returned (.tuple #[.slice none 0 0,.int .i64 1])) wa):=hJ (by
    unfold unmappedF
    rw [if_pos hpf]
    exact ⟨_,_,_,rfl,HB1.out,fun e=>by cases e⟩)
   rw [hpf] at HST
   clear h hp hr hri hprs hm2 hp2 hcell hnw hbx hpg hpf hbxe
   go_wp2_with (go_at_call 151;refine HST.out.mono ?_;rintro e w' ⟨rfl,rfl⟩)
   go_ret2
   exact HNO.out
theorem maProt_any (h:MaF w D B Q) (hp:PrAt w D.z p) (hr:rightL D.ps p.R=true) (hn:p.R.length≤1000) (pid at_ n prot:Int) (d:Value):
 Calls Tryz.prog 113 #[.pointer (some ⟨D.X,0,none⟩),.pointer (some ⟨p.X,0,none⟩),.agg #[.int .i64 4,.int .i64 pid,.int .i64 at_,.int .i64 n,.int .i64 prot,d]] w (MrPost w (protectedF D.sd p.R at_ n prot)):=by
 have hbx:Below w.heap.size w (w.alloc (.cells #[.int .i64 4,.int .i64 pid,.int .i64 at_,.int .i64 n,.int .i64 prot,d] 47)):=jB.alloc jN _
 have hnw:=heap_alloc_new w (.cells #[.int .i64 4,.int .i64 pid,.int .i64 at_,.int .i64 n,.int .i64 prot,d] 47)
 have hcell:∀k v,(#[.int .i64 4,.int .i64 pid,.int .i64 at_,.int .i64 n,.int .i64 prot,d]:Array Value)[k]? =some v→(w.alloc (.cells #[.int .i64 4,.int .i64 pid,.int .i64 at_,.int .i64 n,.int .i64 prot,d] 47)).cell? ⟨w.heap.size,k,none⟩=some v:=fun k v hv=>by
  rw [cell_of_row _ _ _ _ _ _ hnw];exact hv
 have b0:=hcell 0 _ rfl
 have b2:=hcell 2 _ rfl
 have b3:=hcell 3 _ rfl
 have b4:=hcell 4 _ rfl
 have hri:=right_iff.1 hr
 have hprs:∀r∈p.R,r.pr≠ -1:=fun r hr=>by have:=hri.2 r hr;omega
 have hm2:=h.up hbx
 have hp2:=hp.up hbx
 have c7:=h.cc 7 (by omega)
 rw [h.er] at c7
 have lX:=h.ltX
 go_enter Tryz.func113,Tryz.ntmps113
 go_upto_region 1 with (fail)
 generalize w.alloc (.cells #[.int .i64 4,.int .i64 pid,.int .i64 at_,.int .i64 n,.int .i64 prot,d] 47)=wa at *
 obtain ⟨bx,hbxe⟩:∃bx,w.heap.size=bx:=⟨_,rfl⟩
 rw [hbxe] at b0 b2 b3 b4 ⊢
 have lb:=lt_of_cell b0
 have HST:=hJ (maStretch_any hm2 at_ n)
 have lP:=hp2.ltX
 have p0:=hp2.c0
 have hb8:=hm2.sok.b8
 change 1≤D.ps∧D.ps≤65536 at hb8
 have HB1:Hid (Below w.heap.size w wa):=hJ hbx
 by_cases hpg:pagesB D.sd at_ n=true
 · have hpg2:1≤n∧0≤at_∧n≤(D.ps:Int)∧at_≤(D.ps:Int)-n:=of_decide_eq_true hpg
   have hsum:IntKind.i64.wrap (at_+n)=at_+n:=i64_small (by omega) (by omega)
   have hfull:protectedF D.sd p.R at_ n prot=fitF D.sd (protF p.R at_ (at_+n) prot):=by unfold protectedF;rw [if_neg (by rw [hpg];simp)]
   have HCO:Hid (∀V,Below wa.heap.size wa V→Calls Tryz.prog 154 #[p.rv,.int .i64 at_,.int .i64 (at_+n),.int .i64 prot] V fun e w'=>∃A' c',e=.returned (.tuple #[.slice A' (protF p.R at_ (at_+n) prot).1.length c',.int .i64 (protF p.R at_ (at_+n) prot).2])∧FrG w w' (.slice A' (protF p.R at_ (at_+n) prot).1.length c') (protF p.R at_ (at_+n) prot).1):=hJ fun V hV=>by
    have hw:=HB1.out.trans (hV.mono HB1.out.size)
    refine (rProt_any V p.Rc ((hp2.rg).up hV) (by omega) hri.1 hprs at_ (at_+n) prot).mono ?_
    rintro e w' ⟨A',c',he,hf⟩
    exact ⟨A',c',he,OwG.low hf.1 hw.size,hw.trans (hf.2.mono hw.size)⟩
   rw [hpg] at HST
   have HBADP:Hid (prot<0∨3<prot→MrPost w (protectedF D.sd p.R at_ n prot) (.returned (.tuple #[.slice none 0 0,.int .i64 1])) wa):=hJ fun e=>by
    have hb:rightB at_ (at_+n) prot=false:=rightB_no (by omega)
    have e2:protF p.R at_ (at_+n) prot=([],1):=by unfold protF;rw [if_pos hb]
    rw [hfull,e2]
    unfold fitF
    rw [if_neg (by simp)]
    exact ⟨_,_,_,rfl,HB1.out,fun e=>by cases e⟩
   have HFP:=hJ (fun (w1:World) (A':Option Addr) (c':Nat) (hf:FrG w w1 (.slice A' (protF p.R at_ (at_+n) prot).1.length c') (protF p.R at_ (at_+n) prot).1)=>by
    have hfp:=fit_post (D:=D.sd) (R:=protF p.R at_ (at_+n) prot) hf
    rw [←hfull] at hfp
    exact hfp)
   obtain ⟨R,hR⟩:∃R:List Rg×Int,protF p.R at_ (at_+n) prot=R:=⟨_,rfl⟩
   rw [hR] at HCO HFP
   obtain ⟨L,er⟩:=R
   obtain ⟨N,hN⟩:∃N,L.length=N:=⟨_,rfl⟩
   simp only [hN,MaD.sd] at HCO HFP
   unfold MPr.rv at p0
   clear h hp hr hri hprs hm2 hp2 hcell hnw hbx hpg hpg2 hfull hR hN hbxe
   by_cases hw1:prot<0
   · clear HFP HCO
     go_wp2_with (go_at_call 151;refine HST.out.mono ?_;rintro e w' ⟨rfl,rfl⟩)
     go_ret2
     exact HBADP.out (by omega)
   by_cases hw2:3<prot
   · clear HFP HCO
     go_wp2_with (go_at_call 151;refine HST.out.mono ?_;rintro e w' ⟨rfl,rfl⟩)
     go_ret2
     exact HBADP.out (by omega)
   clear HBADP
   go_upto_region 14 with (go_at_call 151;refine HST.out.mono ?_;rintro e w' ⟨rfl,rfl⟩)
   refine wp_region_up_tail 12 (by kernel_rfl) (by kernel_rfl) (by kernel_rfl) ?_
   simp only [List.take_succ_cons,List.take_zero,List.drop_succ_cons,List.drop_zero]
   repeat (go_big_quiet_step (fail))
   refine wpQuiet_nil ?_
   rintro _ ⟨g,rfl⟩
   go_wp2_with fail
   refine (HCO.out _ g.h).mono ?_
   rintro e w3 ⟨A3,c3,rfl,hf3⟩
   have HF3:=hJ (HFP.out w3 A3 c3 hf3)
   have c73:=(hf3.2.cell (p:=⟨D.X,7,none⟩) lX).trans c7
   have lX3:=Nat.lt_of_lt_of_le lX hf3.2.size
   clear hf3 HFP HCO HST
   by_cases her:er=0
   · subst her
     by_cases hlen:(D.rg:Int)<(N:Int)
     · have hd2:decide (D.rg<N)=true:=decide_eq_true (by omega)
       have HG:=hJ (HF3.out.1 rfl hlen)
       clear HF3
       go_wp2
       go_ret2
       exact HG.out
     · have hd2:decide (D.rg<N)=false:=decide_eq_false (by omega)
       have HG:=hJ (HF3.out.2.1 rfl (Int.not_lt.1 hlen))
       clear HF3
       go_wp2
       go_ret2
       exact HG.out
   · have hd1:(er==0)=false:=beq_eq_false_iff_ne.2 her
     have HG:=hJ (HF3.out.2.2 her)
     clear her HF3
     go_wp2
     go_ret2
     exact HG.out
 · have hpf:pagesB D.sd at_ n=false:=by
    cases hc:pagesB D.sd at_ n with
    |true=>exact absurd hc hpg
    |false=>rfl
   have HNO:Hid (MrPost w (protectedF D.sd p.R at_ n prot) (.returned (.tuple #[.slice none 0 0,.int .i64 1])) wa):=hJ (by
    unfold protectedF
    rw [if_pos hpf]
    exact ⟨_,_,_,rfl,HB1.out,fun e=>by cases e⟩)
   rw [hpf] at HST
   clear h hp hr hri hprs hm2 hp2 hcell hnw hbx hpg hpf hbxe
   go_wp2_with (go_at_call 151;refine HST.out.mono ?_;rintro e w' ⟨rfl,rfl⟩)
   go_ret2
   exact HNO.out
end
set_option maxRecDepth 100000
set_option maxHeartbeats 8000000
structure OpP where
 kind:Int
 pid:Int
 at_:Int
 n:Int
 prot:Int
 data:Bytes
def right9 (kind:Int) (bp ba bn br bd:Bool):Bool:=
 if kind=1∨kind=9 then !bp && !ba && !bn && !br && !bd
 else if kind=2∨kind=4 then !bd
 else if kind=3∨kind=5 then !br && !bd
 else if kind=6 then !bn && !br
 else if kind=7∨kind=8 then !ba && !bn && !br && !bd
 else false
def OpP.right (o:OpP):Bool:=right9 o.kind (o.pid !=0) (o.at_ !=0) (o.n !=0) (o.prot !=0) (decide (0<o.data.length))
theorem mRight_any (w:World) (kind pid at_ n prot:Int) (A:Option Addr) (m c:Nat):Calls Tryz.prog 71 #[.agg #[.int .i64 kind,.int .i64 pid,.int .i64 at_,.int .i64 n,.int .i64 prot,.slice A m c]] w fun e w'=>
 e=.returned (.bool (right9 kind (pid !=0) (at_ !=0) (n !=0) (prot !=0) (decide (0<m))))∧Below w.heap.size w w':=by
 have HB:Hid (∀T,Below w.heap.size w (w.alloc (.cells #[.int .i64 kind,.int .i64 pid,.int .i64 at_,.int .i64 n,.int .i64 prot,.slice A m c] T))):=hJ fun T=>jB.alloc jN _
 obtain ⟨bp,hbp⟩:∃b,(pid !=0)=b:=⟨_,rfl⟩
 obtain ⟨ba,hba⟩:∃b,(at_ !=0)=b:=⟨_,rfl⟩
 obtain ⟨bn,hbn⟩:∃b,(n !=0)=b:=⟨_,rfl⟩
 obtain ⟨br,hbr⟩:∃b,(prot !=0)=b:=⟨_,rfl⟩
 obtain ⟨bd,hbd⟩:∃b,decide (0<m)=b:=⟨_,rfl⟩
 rw [hbp,hba,hbn,hbr,hbd]
 have hbd2:decide ((0:Int)<(m:Int))=bd:=by rw [←hbd];congr 1;exact propext (by omega)
 by_cases hk:kind=1∨kind=2∨kind=3∨kind=4∨kind=5∨kind=6∨kind=7∨kind=8∨kind=9
 · rcases hk with rfl|rfl|rfl|rfl|rfl|rfl|rfl|rfl|rfl
   · cases bp with
     | true=>
       go_enter Tryz.func71,Tryz.ntmps71
       go_wp2
       go_ret
       exact ⟨ret_bool (by simp [right9]),HB.out _⟩
     | false =>
       cases ba with
       | true=>
         go_enter Tryz.func71,Tryz.ntmps71
         go_wp2
         go_ret
         exact ⟨ret_bool (by simp [right9]),HB.out _⟩
       | false =>
         cases bn with
         | true=>
           go_enter Tryz.func71,Tryz.ntmps71
           go_wp2
           go_ret
           exact ⟨ret_bool (by simp [right9]),HB.out _⟩
         | false=>
           cases br with
           | true=>
             go_enter Tryz.func71,Tryz.ntmps71
             go_wp2
             go_ret
             exact ⟨ret_bool (by simp [right9]),HB.out _⟩
           | false=>
             cases bd with
             | true=>
               go_enter Tryz.func71,Tryz.ntmps71
               go_wp2
               go_ret
               exact ⟨ret_bool (by simp [right9]),HB.out _⟩
             | false=>
               go_enter Tryz.func71,Tryz.ntmps71
               go_wp2
               go_ret
               exact ⟨ret_bool (by simp [right9]),HB.out _⟩
   · cases bd with
     | true=>
       go_enter Tryz.func71,Tryz.ntmps71
       go_wp2
       go_ret
       exact ⟨ret_bool (by simp [right9]),HB.out _⟩
     | false=>
       go_enter Tryz.func71,Tryz.ntmps71
       go_wp2
       go_ret
       exact ⟨ret_bool (by simp [right9]),HB.out _⟩
   · cases br with
     | true=>
       go_enter Tryz.func71,Tryz.ntmps71
       go_wp2
       go_ret
       exact ⟨ret_bool (by simp [right9]),HB.out _⟩
     | false=>
       cases bd with
       | true=>
         go_enter Tryz.func71,Tryz.ntmps71
         go_wp2
         go_ret
         exact ⟨ret_bool (by simp [right9]),HB.out _⟩
       | false=>
         go_enter Tryz.func71,Tryz.ntmps71
         go_wp2
         go_ret
         exact ⟨ret_bool (by simp [right9]),HB.out _⟩
   · cases bd with
     | true=>
       go_enter Tryz.func71,Tryz.ntmps71
       go_wp2
       go_ret
       exact ⟨ret_bool (by simp [right9]),HB.out _⟩
     | false=>
       go_enter Tryz.func71,Tryz.ntmps71
       go_wp2
       go_ret
       exact ⟨ret_bool (by simp [right9]),HB.out _⟩
   · cases br with
     | true=>
       go_enter Tryz.func71,Tryz.ntmps71
       go_wp2
       go_ret
       exact ⟨ret_bool (by simp [right9]),HB.out _⟩
     | false=>
       cases bd with
       | true=>
         go_enter Tryz.func71,Tryz.ntmps71
         go_wp2
         go_ret
         exact ⟨ret_bool (by simp [right9]),HB.out _⟩
       | false=>
         go_enter Tryz.func71,Tryz.ntmps71
         go_wp2
         go_ret
         exact ⟨ret_bool (by simp [right9]),HB.out _⟩
   · cases bn with
     | true=>
       go_enter Tryz.func71,Tryz.ntmps71
       go_wp2
       go_ret
       exact ⟨ret_bool (by simp [right9]),HB.out _⟩
     | false=>
       cases br with
       | true=>
         go_enter Tryz.func71,Tryz.ntmps71
         go_wp2
         go_ret
         exact ⟨ret_bool (by simp [right9]),HB.out _⟩
       | false=>
         go_enter Tryz.func71,Tryz.ntmps71
         go_wp2
         go_ret
         exact ⟨ret_bool (by simp [right9]),HB.out _⟩
   · cases ba with
     | true=>
       go_enter Tryz.func71,Tryz.ntmps71
       go_wp2
       go_ret
       exact ⟨ret_bool (by simp [right9]),HB.out _⟩
     | false =>
       cases bn with
       | true=>
         go_enter Tryz.func71,Tryz.ntmps71
         go_wp2
         go_ret
         exact ⟨ret_bool (by simp [right9]),HB.out _⟩
       | false=>
         cases br with
         | true=>
           go_enter Tryz.func71,Tryz.ntmps71
           go_wp2
           go_ret
           exact ⟨ret_bool (by simp [right9]),HB.out _⟩
         | false=>
           cases bd with
           | true=>
             go_enter Tryz.func71,Tryz.ntmps71
             go_wp2
             go_ret
             exact ⟨ret_bool (by simp [right9]),HB.out _⟩
           | false=>
             go_enter Tryz.func71,Tryz.ntmps71
             go_wp2
             go_ret
             exact ⟨ret_bool (by simp [right9]),HB.out _⟩
   · cases ba with
     | true=>
       go_enter Tryz.func71,Tryz.ntmps71
       go_wp2
       go_ret
       exact ⟨ret_bool (by simp [right9]),HB.out _⟩
     | false =>
       cases bn with
       | true=>
         go_enter Tryz.func71,Tryz.ntmps71
         go_wp2
         go_ret
         exact ⟨ret_bool (by simp [right9]),HB.out _⟩
       | false=>
         cases br with
         | true=>
           go_enter Tryz.func71,Tryz.ntmps71
           go_wp2
           go_ret
           exact ⟨ret_bool (by simp [right9]),HB.out _⟩
         | false=>
           cases bd with
           | true=>
             go_enter Tryz.func71,Tryz.ntmps71
             go_wp2
             go_ret
             exact ⟨ret_bool (by simp [right9]),HB.out _⟩
           | false=>
             go_enter Tryz.func71,Tryz.ntmps71
             go_wp2
             go_ret
             exact ⟨ret_bool (by simp [right9]),HB.out _⟩
   · cases bp with
     | true=>
       go_enter Tryz.func71,Tryz.ntmps71
       go_wp2
       go_ret
       exact ⟨ret_bool (by simp [right9]),HB.out _⟩
     | false =>
       cases ba with
       | true=>
         go_enter Tryz.func71,Tryz.ntmps71
         go_wp2
         go_ret
         exact ⟨ret_bool (by simp [right9]),HB.out _⟩
       | false =>
         cases bn with
         | true=>
           go_enter Tryz.func71,Tryz.ntmps71
           go_wp2
           go_ret
           exact ⟨ret_bool (by simp [right9]),HB.out _⟩
         | false=>
           cases br with
           | true=>
             go_enter Tryz.func71,Tryz.ntmps71
             go_wp2
             go_ret
             exact ⟨ret_bool (by simp [right9]),HB.out _⟩
           | false=>
             cases bd with
             | true=>
               go_enter Tryz.func71,Tryz.ntmps71
               go_wp2
               go_ret
               exact ⟨ret_bool (by simp [right9]),HB.out _⟩
             | false=>
               go_enter Tryz.func71,Tryz.ntmps71
               go_wp2
               go_ret
               exact ⟨ret_bool (by simp [right9]),HB.out _⟩
 · have q1:(kind==1)=false:=beq_eq_false_iff_ne.2 (by omega)
   have q2:(kind==2)=false:=beq_eq_false_iff_ne.2 (by omega)
   have q3:(kind==3)=false:=beq_eq_false_iff_ne.2 (by omega)
   have q4:(kind==4)=false:=beq_eq_false_iff_ne.2 (by omega)
   have q5:(kind==5)=false:=beq_eq_false_iff_ne.2 (by omega)
   have q6:(kind==6)=false:=beq_eq_false_iff_ne.2 (by omega)
   have q7:(kind==7)=false:=beq_eq_false_iff_ne.2 (by omega)
   have q8:(kind==8)=false:=beq_eq_false_iff_ne.2 (by omega)
   have q9:(kind==9)=false:=beq_eq_false_iff_ne.2 (by omega)
   have hr:Hid (right9 kind bp ba bn br bd=false):=hJ (by
    unfold right9
    rw [if_neg (by omega),if_neg (by omega),if_neg (by omega),if_neg (by omega),if_neg (by omega)])
   clear hk
   go_enter Tryz.func71,Tryz.ntmps71
   go_wp2
   go_ret
   exact ⟨ret_bool hr.out.symm,HB.out _⟩
end Go.Proofs.YtlhfjaagkgengaaGreat
