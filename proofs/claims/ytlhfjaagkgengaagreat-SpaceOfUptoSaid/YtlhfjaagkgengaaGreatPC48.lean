/- almanaclaw16: step, whatever the kind. -/
import Derived.Test.YtlhfjaagkgengaaGreatPC47
namespace Go.Proofs.YtlhfjaagkgengaaGreat
set_option maxRecDepth 100000
open Go.RowKit Go.Maps
set_option linter.unusedVariables false
set_option linter.unusedSimpArgs false
section
variable {w0 w w' w1 w2:World} {o:WD} {t t':PSt ShS} {C C':Cu} {kk k U:Nat} {sp:List (Option Spc)} {P P':List (Option MPr)}
theorem do16_any {s:Spc} {p:PrP} {Q:List (Option Nat)} {l:List Spc} {kind:Int} (hk:kind=2∨kind=3∨kind=4∨kind=5∨kind=6) (pid:Int) (at_ n prot:Int) (c:Nat) {A:Option Addr} {data:Bytes} (h:WB w0 w o t C (kk+(8192+2*data.length)) (s::l) P Q) (hQ:Q[k]? =some (some s.D.X)) (hr:PgRel s C p) (hd:ShOk o.D s) (hld:kind=5→¬(8192<n∧n≤1048576)) (hS:SBy w A data.length data) (hbc:data.length≤c) (hbn:data.length≤9223372036854775807) (hV:VIn (fun g=>g<w.heap.size∧¬Own o.d t g) (.slice A data.length c)):
 Calls Tryz.prog 72 #[.pointer (some ⟨o.W,0,none⟩),.int .i64 (k:Nat),.agg #[.int .i64 kind,.int .i64 pid,.int .i64 at_,.int .i64 n,.int .i64 prot,.slice A data.length c]] w (LdPost16 w0 w t o C kk s l P Q (opP o.D.sd p ⟨kind,pid,at_,n,prot,data⟩)):=by
 rcases hk with rfl|rfl|rfl|rfl|rfl
 · exact do16_map pid at_ n prot A data.length c (h.less (by omega)) hQ hr hd
 · exact do16_unmap pid at_ n prot A data.length c (h.less (by omega)) hQ hr hd
 · exact do16_prot pid at_ n prot A data.length c (h.less (by omega)) hQ hr hd
 · exact do16_load pid at_ n prot A data.length c (h.less (by omega)) hQ hr hd (load_few (hld rfl))
 · exact do16_store pid at_ n prot c (h.less (by omega)) hQ hr hd hS hbc hbn hV
set_option maxHeartbeats 16000000 in
theorem step16_all (U1 :Nat) (a kind pid at_ n prot:Int) (A:Option Addr) (m c:Nat) {data:Bytes} (hm:m=data.length) (hU:U+data.length≤100000) (hu1:data.length≤U1) (hcm:data.length≤c) (hbig:data.length≤1000000) (hld:kind=5→¬(8192<n∧n≤1048576)) (hS:SBy w A m data) (hA:∀g o',0<m→A=some ⟨g,o',none⟩→g<w0.heap.size) (h:WS w0 w o t C (kk+(8192+2*data.length+(o.d.n+1))) U sp P):
 Calls Tryz.prog 22 #[.pointer (some ⟨o.W,0,none⟩),.agg #[.int .i64 a,.int .i64 kind,.int .i64 pid,.int .i64 at_,.int .i64 n,.int .i64 prot,.slice A m c]] w (StPost16 w0 o kk (U+U1) sp):=by
 have HW0B:=hJ h.b.bel
 have HSD:=hJ hS
 have HAD:=hJ hA
 have HM:=hJ hm
 have HUU:=hJ (And.intro hU (And.intro hu1 (And.intro hcm (And.intro hbig hld))))
 clear hS hA hm hU hu1 hcm hbig hld
 have hn64:=h.b.ma.f.npos
 have hlen:=h.len
 obtain ⟨N,hN⟩:∃N,o.D.n=N:=⟨_,rfl⟩
 obtain ⟨g,hg,lg,hcg,fg⟩:=h.b.rAt
 have lW:=h.b.ltW
 have c11:=h.b.c11
 unfold WD.rv at c11
 rw [hg] at c11
 rw [hN] at hn64 hlen c11
 have m0:¬N=0:=by omega
 have m0':¬(N:Int)=0:=by omega
 have m0'':((N:Int)==0)=false:=beq_eq_false_iff_ne.2 m0'
 obtain ⟨tm,htm⟩:∃tm,a.tmod (N:Int)=tm:=⟨_,rfl⟩
 have htb: -(N:Int)<tm∧tm<(N:Int):=by
  rw [←htm]
  exact ⟨Int.lt_tmod_of_pos _ (by omega),Int.tmod_lt_of_pos _ (by omega)⟩
 have v0:IntKind.i64.wrap tm=tm:=IntWalk.i64_in _ (by omega)
 have v1:IntKind.i64.wrap (0-tm)= -tm:=by rw [IntWalk.i64_in _ (by omega)];omega
 have v3:IntKind.i64.wrap (-tm)= -tm:=IntWalk.i64_in _ (by omega)
 obtain ⟨j,hj⟩:∃j:Nat,j=tm.natAbs:=⟨_,rfl⟩
 have hjn:j<N:=by omega
 have HJ:=hJ hj
 have HNN:=hJ hN
 have HG:=hJ hg
 have HS:=hJ h
 have hbx:Below w.heap.size w (w.alloc (.cells #[.int .i64 a,.int .i64 kind,.int .i64 pid,.int .i64 at_,.int .i64 n,.int .i64 prot,.slice A m c] 49)):=jB.alloc jN _
 have HBX:=hJ hbx
 have hac:=AcAt.new w a kind pid at_ n prot (.slice A m c) 49
 have HROW:Hid (∀(i:Nat) (x:Option Spc),sp[i]? =some x→w.cell? ⟨g,i,none⟩=some (.pointer ((x.map fun s=>s.D.X).map fun g=>⟨g,0,none⟩))):=hJ fun i x hx=>hcg i _ (by unfold qS;rw [List.getElem?_map,hx];rfl)
 clear h hg hcg fg hj htb hN
 go_enter Tryz.func22,Tryz.ntmps22
 go_upto_region 1 with (fail)
 refine wp_forget (fun V=>Below w.heap.size w V∧AcAt V w.heap.size a kind pid at_ n prot (.slice A m c)) ⟨hbx,hac⟩ ?_
 clear hbx hac HBX
 rintro V ⟨hbx,hac⟩
 obtain ⟨bx,hbxe⟩:∃bx,w.heap.size=bx:=⟨_,rfl⟩
 have HBX:=hJ hbx
 have d11:=(hbx.cell (p:=⟨o.W,11,none⟩) lW).trans c11
 have lW2:=lt_of_cell d11
 have lg2:g<V.heap.size:=Nat.lt_of_lt_of_le lg hbx.size
 have HROW2:Hid (∀(i:Nat) (x:Option Spc),sp[i]? =some x→V.cell? ⟨g,i,none⟩=some (.pointer ((x.map fun s=>s.D.X).map fun g=>⟨g,0,none⟩))):=hJ fun i x hx=>(hbx.cell (p:=⟨g,i,none⟩) lg).trans (HROW.out i x hx)
 rw [hbxe] at hac
 rw [hbxe]
 have HAC:=hJ hac
 have x0:=hac.c0
 have lx:=lt_of_cell x0
 have D11:=hJ d11
 clear hbx hac HROW c11 lW lg hbxe
 go_quiet (fail)
 go_upto_if 20 with (fail)
 go_cut [5] from 20 to 22 (fun s5 wq=>s5=.int .i64 (j:Nat)∧∃q,wq=V.drewN q)
 case first=>
  by_cases hlt:tm<0
  · have HE:=hJ (show -tm=(j:Int) by have:=HJ.out;omega)
    go_wp2_with fail
    go_meet
    have v2:IntKind.i64.wrap (j:Int)=(j:Int):=IntWalk.i64_in _ (by omega)
    exact ⟨by first|(rw [HE.out];done)|(rw [HE.out];exact congrArg _ v2)|(simp;have:=HE.out;omega),_,rfl⟩
  · have HE:=hJ (show tm=(j:Int) by have:=HJ.out;omega)
    go_wp2_with fail
    go_meet
    exact ⟨by rw [HE.out],_,rfl⟩
 case rest=>
 obtain ⟨rfl,q,hW⟩:=hcut
 have hW2:=hW.symm
 subst hW2
 clear hW d11 lW2 lg2 x0 lx m0 m0' m0'' v0 v1 v3 htm
 go_upto_region 4 with (fail)
 refine wp_forget (fun V2=>Below w.heap.size w V2∧AcAt V2 bx a kind pid at_ n prot (.slice A m c)∧V2.cell? ⟨o.W,11,none⟩=some (.slice (some ⟨g,0,none⟩) N o.cap)∧∀(i:Nat) (x:Option Spc),sp[i]? =some x→V2.cell? ⟨g,i,none⟩=some (.pointer ((x.map fun s=>s.D.X).map fun g=>⟨g,0,none⟩))) ⟨below_drewN HBX.out _,⟨HAC.out.c0,HAC.out.c1,HAC.out.c2,HAC.out.c3,HAC.out.c4,HAC.out.c5,HAC.out.c6⟩,D11.out,HROW2.out⟩ ?_
 clear HBX HAC HROW2 D11
 rintro V2 ⟨hb2,hac2,d11,hrow⟩
 have HB2:=hJ hb2
 have HAC2:=hJ hac2
 have HROW2:=hJ hrow
 have lW2:=lt_of_cell d11
 have hjI:(j:Int)<(N:Int):=by omega
 obtain ⟨xj,hxj⟩:∃x,sp[j]? =some x:=⟨_,jE (by omega)⟩
 obtain ⟨k,hk⟩:∃k:Nat,(xj=none∧k=0)∨((∃s,xj=some s)∧k=j):=by
  cases xj with
  |none=>exact ⟨0,.inl ⟨rfl,rfl⟩⟩
  |some s=>exact ⟨j,.inr ⟨⟨s,rfl⟩,rfl⟩⟩
 have HKJ:=hJ hk
 have HXJ:=hJ hxj
 have hrj:=hrow j xj hxj
 have lg2:=lt_of_cell hrj
 clear hb2 hac2 hrow hxj hk
 go_upto_if 30 with (fail)
 go_cut [5] from 30 to 30 (fun s5 wq=>s5=.int .i64 (k:Nat)∧wq=V2)
 case first=>
  cases xj with
  | none=>
    obtain rfl:k=0:=by rcases HKJ.out with ⟨_,h2⟩|⟨⟨s,h1⟩,_⟩;exact h2;cases h1
    simp only [Option.map_none] at hrj
    go_wp2_with fail
    go_meet
    exact ⟨rfl,rfl⟩
  | some s=>
    obtain rfl:k=j:=by rcases HKJ.out with ⟨h1,_⟩|⟨_,h2⟩;cases h1;exact h2
    simp only [Option.map_some] at hrj
    go_wp2_with fail
    go_meet
    exact ⟨rfl,rfl⟩
 case rest=>
 obtain ⟨rfl,hW⟩:=hcut
 have hW2:=hW.symm
 subst hW2
 have hkn:k<N:=by rcases HKJ.out with ⟨_,h2⟩|⟨_,h2⟩<;>omega
 have hkI:(k:Int)<(N:Int):=by omega
 clear hW hrj lg2
 obtain ⟨xk,hxk⟩:∃x,sp[k]? =some x:=⟨_,jE (by omega)⟩
 have hrk:=HROW2.out k xk hxk
 have lg2:=lt_of_cell hrk
 cases xk with
 | none=>
   simp only [Option.map_none] at hrk
   have HR:Hid (StPost16 w0 o kk (U+U1) sp (.returned (.bool true)) V2):=hJ ⟨rfl,(HS.out.up HB2.out).str (by omega) (by omega)⟩
   go_wp2
   go_ret
   exact HR.out
 |some s=>
 simp only [Option.map_some] at hrk
 have HSK:=hJ hxk
 obtain ⟨_,x1,x2,x3,x4,x5,x6⟩:=HAC2.out
 have lx:=lt_of_cell x1
 clear hxk HKJ HXJ hjI hjn HJ
 go_upto_region 10 with (fail)
 refine wp_forget (fun V3=>Below w.heap.size w V3∧OpAt V3 V2.heap.size kind (k:Nat) at_ n prot (.slice A m c)) ⟨HB2.out.trans ((jB.alloc jN _).mono HB2.out.size),OpAt.of (op_cells jB)⟩ ?_
 clear HAC2 d11 lW2 HROW2 hrk lg2 lx x1 x2 x3 x4 x5 x6
 rintro V3 ⟨hb3,hop⟩
 obtain ⟨bo,hbo⟩:∃bo,V2.heap.size=bo:=⟨_,rfl⟩
 have HBO:=hJ (show w.heap.size≤bo by have:=HB2.out.size;omega)
 rw [hbo] at hop
 rw [hbo]
 clear HB2 hbo
 have HB3:=hJ hb3
 have HOP:=hJ hop
 have HS3:=hJ (HS.out.up hb3)
 obtain ⟨o0,o1,o2,o3,o4,o5⟩:=hop
 have lbo:=lt_of_cell o0
 have lW3:=HS3.out.b.ltW
 have HB3K:=HB3
 have HBW:Hid (¬wO o t (lS sp) P bo):=hJ fun e=>by have:=HS.out.b.lt e;have:=HBO.out;omega
 clear hb3 HS HB3
 by_cases k7:kind=7
 · have HKD:=hJ k7
   have hU:U≤100000:=by have:=HUU.out.1;omega
   have HS3:=hJ (HS3.out.less (kk':=kk) (by omega) jN)
   clear k7
   as_aux_lemma=>
    obtain rfl:=HKD.out
    clear HKD
    have c10:=HS3.out.b.c10
    obtain ⟨p,hp,hr,hd⟩:=HS3.out.r.at_ HSK.out
    have HDO:=hJ (HS3.out.do 7 (k:Nat) 0 0 0 (data:=[]) (A:=none) 0 (by simpa using hU) (SBy.nil _ _) (fun _ _ e=>by cases e))
    have HDF:=hJ (doF_fork (S:=o.D.sd) hp)
    have HRL:=hJ (And.intro hr hd)
    have HPK:=hJ hp
    have HR0:=hJ HS3.out.r
    have HF0:=hJ HS3.out.few
    have hnU:=HS3.out.qn HSK.out
    clear hp hr hd
    by_cases hfu:fullB (plP P)=true
    · rw [if_pos hfu] at HDF
      go_upto_region 13 with (go_at_call 70;refine HDO.out.mono ?_;rintro e w4 ⟨P4,h4,hp4,ha4,ho4⟩;have H4:=hJ h4;have HP4:=hJ hp4;rw [HDF.out] at ha4;obtain ⟨Ad,cd,Ap,cp,he4,_⟩:=ha4;unfold ansV at he4;obtain rfl:=he4;clear h4 hp4 ho4)
      rw [HDF.out] at HP4
      have HX:Hid (∀W,Below w4.heap.size w4 W→StR16 w0 o kk (U+U1) sp W):=hJ fun W hW=>⟨t,C,sp,P4,⟨H4.out.up hW,by rw [HP4.out];exact HR0.out,fun q hq=>by rw [HP4.out] at hq;exact Nat.le_trans (HF0.out q hq) (by omega)⟩,id⟩
      clear HDO HDF o0 o1 o2 o3 o4 o5 lbo lW3 c10
      go_wp2
      go_ret
      exact ⟨rfl,HX.out _ (jB.alloc jN _)⟩
    · rw [if_neg hfu] at HDF
      have hfn:=free_first hfu
      have hfl:firstN (plP P)<N:=by have h1:=(jS.1 hfn).1;have h2:=HR0.out.len;omega
      have hsn:=HR0.out.gone _ hfn
      obtain ⟨j2,hj2⟩:∃j2,firstN (plP P)=j2:=⟨_,rfl⟩
      rw [hj2] at HDF hfl hsn
      have HSN:=hJ hsn
      have HHD:=hJ (HS3.out.head HSK.out)
      clear hfn hsn hj2 hfu
      go_upto_region 13 with (go_at_call 70;refine HDO.out.mono ?_;rintro e w4 ⟨P4,h4,hp4,ha4,ho4⟩;have H4:=hJ h4;have HP4:=hJ hp4;rw [HDF.out] at ha4;obtain ⟨Ad,cd,Ap,cp,he4,_⟩:=ha4;unfold ansV at he4;obtain rfl:=he4;clear h4 hp4 ho4)
      rw [HDF.out] at HP4
      clear HDO HDF o0 o1 o2 o3 o4 o5 lbo lW3 c10
      refine wp_forget (fun V5=>Below w4.heap.size w4 V5∧V5.cell? ⟨w4.heap.size,0,none⟩=some (.int .i64 0)∧V5.cell? ⟨w4.heap.size,1,none⟩=some (.int .i64 (j2:Nat))) ⟨jB.alloc jN _,by rw [cell_of_row _ _ _ _ _ _ (heap_alloc_new w4 _)];rfl,by rw [cell_of_row _ _ _ _ _ _ (heap_alloc_new w4 _)];rfl⟩ ?_
      rintro V5 ⟨hb5,a0,a1⟩
      obtain ⟨ba,hba⟩:∃ba,w4.heap.size=ba:=⟨_,rfl⟩
      rw [hba] at a0 a1
      rw [hba]
      have H5:=hJ (((H4.out.up hb5).perm (lS_out HSK.out)))
      have HBA:Hid (¬swO o.d t (s::lS (sp.set k none)) ba):=hJ fun e=>by
       have:=(H4.out.perm (lS_out HSK.out)).lw.sw.lt e
       omega
      have lba:=lt_of_cell a0
      have hnl:(lS (sp.set k none)).length<900:=by
       have:=List.length_filterMap_le id (sp.set k none)
       rw [List.length_set] at this
       unfold lS
       omega
      have HFK:=hJ (fun (V:World) (hV:Below V5.heap.size V5 V)=>(H5.out.up hV).fork HRL.out.1.rg (by omega) hnl)
      have HG4:Hid (g<ba):=hJ (by obtain ⟨g4,hg4,lg4,_⟩:=H4.out.rAt;have e9:g=g4:=(by have:=HG.out.symm.trans hg4;cases this;rfl);omega)
      clear hnl hb5 hba H4
      have lW5:=H5.out.ltW
      have c11:=H5.out.c11
      obtain ⟨g5,hg5,lg5,hcg5,fg5⟩:=H5.out.rAt
      obtain rfl:g=g5:=by have:=HG.out.symm.trans hg5;cases this;rfl
      have r5:=hcg5 k _ (qS_at HSK.out)
      have r6:=hcg5 j2 _ (qS_none HSN.out)
      unfold WD.rv at c11
      rw [hg5,HNN.out] at c11
      simp only [Option.map_some] at r5
      simp only [Option.map_none] at r6
      have fz:=fg5 j2
      have hjI:(j2:Int)<(N:Int):=by omega
      have nsW:Hid (¬swO o.d t (s::lS (sp.set k none)) o.W∧¬swO o.d t (s::lS (sp.set k none)) g):=hJ ⟨H5.out.s2 _ (.inl rfl),H5.out.s2 _ (.inr (by unfold WD.rv;rw [hg5];rfl))⟩
      have hgW:¬o.W=g:=fun e=>H5.out.neW (by unfold WD.rv;rw [hg5];exact congrArg some e.symm)
      have hgb:¬g=ba:=fun e=>by have:=HG4.out;omega
      clear hcg5 fg5 hg5
      have hkj:¬j2=k:=fun e=>by rw [e] at HSN;have:=HSN.out.symm.trans HSK.out;cases this
      have HST:Hid (∀(V:World) (x:Value),(V.cell? ⟨o.W,11,none⟩=some (.slice (some ⟨g,0,none⟩) N o.cap)∧V.cell? ⟨g,k,none⟩=some (.pointer (some ⟨s.D.X,0,none⟩))∧V.cell? ⟨ba,1,none⟩=some (.int .i64 (j2:Nat)))→((V.setCell ⟨g,j2,none⟩ x).cell? ⟨o.W,11,none⟩=some (.slice (some ⟨g,0,none⟩) N o.cap)∧(V.setCell ⟨g,j2,none⟩ x).cell? ⟨g,k,none⟩=some (.pointer (some ⟨s.D.X,0,none⟩))∧(V.setCell ⟨g,j2,none⟩ x).cell? ⟨ba,1,none⟩=some (.int .i64 (j2:Nat)))):=hJ fun V x ⟨h1,h2,h3⟩=>by
       refine ⟨?_,?_,?_⟩
       · rw [World.cell?_setCell_other _ _ _ _ (fun e=>by injection e with e1 _;exact hgW e1.symm)];exact h1
       · rw [World.cell?_setCell_other _ _ _ _ (fun e=>by injection e with _ e1;exact hkj e1)];exact h2
       · rw [World.cell?_setCell_other _ _ _ _ (fun e=>by injection e with e1 _;exact hgb e1)];exact h3
      clear hkj hgW hgb
      go_upto_region 15 with (fail)
      go_region_held3 (fun V=>V.cell? ⟨o.W,11,none⟩=some (.slice (some ⟨g,0,none⟩) N o.cap)∧V.cell? ⟨g,k,none⟩=some (.pointer (some ⟨s.D.X,0,none⟩))∧V.cell? ⟨ba,1,none⟩=some (.int .i64 (j2:Nat))) (first|exact ⟨c11,r5,a1⟩|exact KS.out|exact HST.out _ _ KS.out|go_keep)
       ((go_at_call 32;(with_reducible refine (HFK.out _ jB.drew).mono ?_);rintro e w6 ⟨X6,M6,A6,q6,t6,rfl,h6,hm6,ho6⟩;have KS:Hid (w6.cell? ⟨o.W,11,none⟩=some (.slice (some ⟨g,0,none⟩) N o.cap)∧w6.cell? ⟨g,k,none⟩=some (.pointer (some ⟨s.D.X,0,none⟩))∧w6.cell? ⟨ba,1,none⟩=some (.int .i64 (j2:Nat))):=hJ ⟨(ho6.cell (p:=⟨o.W,11,none⟩) lW5 nsW.out.1).trans c11,(ho6.cell (p:=⟨g,k,none⟩) lg5 nsW.out.2).trans r5,(ho6.cell (p:=⟨ba,1,none⟩) lba HBA.out).trans a1⟩;have c66:=(ho6.cell (p:=⟨g,j2,none⟩) lg5 nsW.out.2).trans r6;have f66:=(ho6.frozen (p:=⟨g,j2,none⟩) lg5 nsW.out.2).trans fz;have H6:=hJ h6;have HM6:=hJ hm6;have HO6:=hJ ho6;clear h6 hm6 ho6))
      have HW6:=hJ ((H6.out.perm (List.Perm.cons _ (lS_out HSK.out).symm)).setQ HG.out (by have:=HNN.out;omega) j2 (some X6))
      have HFIN:=hJ (WS.new (U:=U) HR0.out HF0.out HSN.out HW6.out HP4.out (HRL.out.1.fork (HM6.out _ jM) rfl rfl rfl) HRL.out.2 (fun x hx=>HM6.out x ((lS_out HSK.out).mem_iff.1 hx)) (HF0.out p (jG HPK.out)))
      have k7:=World.cell?_setCell_same w6 ⟨g,j2,none⟩ (.pointer (some ⟨X6,0,none⟩)) c66
      have HK7:=hJ (And.intro (HST.out _ (.pointer (some ⟨X6,0,none⟩)) KS.out) k7)
      clear k7 c66 f66 HW6
      go_upto_region 16 with (fail)
      refine wp_forget (fun V=>StR16 w0 o kk (U+U1) sp V∧(V.cell? ⟨o.W,11,none⟩=some (.slice (some ⟨g,0,none⟩) N o.cap)∧V.cell? ⟨g,k,none⟩=some (.pointer (some ⟨s.D.X,0,none⟩))∧V.cell? ⟨ba,1,none⟩=some (.int .i64 (j2:Nat)))∧V.cell? ⟨g,j2,none⟩=some (.pointer (some ⟨X6,0,none⟩))) ⟨⟨t6,_,_,P4,HFIN.out.less jN (by omega),fun h0=>put_first h0⟩,HK7.out⟩ ?_
      clear HFIN HK7 KS c11 r5 r6 fz a0 a1 lW5 lg5 lba
      rintro V7 ⟨hst,⟨k1,k2,k3⟩,k4⟩
      have HST7:=hJ hst
      have lW7:=lt_of_cell k1
      have lg7:=lt_of_cell k2
      have lb7:=lt_of_cell k3
      clear hst
      go_quiet (fail)
      go_wp2
      go_ret
      obtain ⟨t8,C8,sp8,P8,h8,h9⟩:=HST7.out
      exact ⟨rfl,t8,C8,sp8,P8,h8.up (below_drewN jB _),h9⟩
 by_cases k8:kind=8
 · have HKD:=hJ k8
   have hU:U≤100000:=by have:=HUU.out.1;omega
   have HS3:=hJ (HS3.out.less (kk':=kk) (by omega) jN)
   clear k7 k8
   as_aux_lemma=>
    obtain rfl:=HKD.out
    clear HKD
    by_cases hk0:k=0
    · subst hk0
      have hx:=HS3.out.str (kk':=kk) (U':=U+U1) (by omega) (by omega)
      have HX:=hJ hx
      clear hx
      go_wp2
      go_ret
      exact ⟨rfl,HX.out⟩
    have hk0I:¬(k:Int)=0:=by omega
    have c10:=HS3.out.b.c10
    obtain ⟨p,hp,hr,hd⟩:=HS3.out.r.at_ HSK.out
    have HDO:=hJ (HS3.out.do 8 (k:Nat) 0 0 0 (data:=[]) (A:=none) 0 (by simpa using hU) (SBy.nil _ _) (fun _ _ e=>by cases e))
    have HDF:=hJ (doF_exit (S:=o.D.sd) hp)
    have HRL:=hJ (And.intro hr hd)
    clear hp hr hd
    go_upto_region 21 with (go_at_call 70;refine HDO.out.mono ?_;rintro e w4 ⟨P4,h4,hp4,ha4,ho4⟩;have H4:=hJ h4;have HP4:=hJ hp4;rw [HDF.out] at ha4;obtain ⟨Ad,cd,Ap,cp,rfl,_⟩:=ha4;clear h4 hp4 ho4)
    have HR0:=hJ HS3.out.r
    have HF0:=hJ HS3.out.few
    rw [HDF.out] at HP4
    have HB4:=hJ (H4.out.perm (lS_out HSK.out))
    clear HS3 HDO HDF c10 o0 o1 o2 o3 o4 o5 lbo lW3 H4
    have lW4:=HB4.out.ltW
    have c11:=HB4.out.c11
    obtain ⟨g4,hg4,lg4,hcg4,fg4⟩:=HB4.out.rAt
    obtain rfl:g=g4:=by have:=HG.out.symm.trans hg4;cases this;rfl
    have r4:=hcg4 k _ (qS_at HSK.out)
    unfold WD.rv at c11
    rw [hg4,HNN.out] at c11
    simp only [Option.map_some] at r4
    have HCL:=hJ HB4.out.close
    clear hcg4 fg4 hg4
    go_upto_region 22 with (go_at_call 33;refine HCL.out.mono ?_;rintro e w5 ⟨rfl,t5,C5,h5,hm5,hs5,ho5⟩;have H5:=hJ h5;have HM5:=hJ hm5;have HSP5:=hJ hs5;clear h5 hm5 hs5 ho5)
    clear c11 r4 lW4 lg4 HCL HB4
    have lW5:=H5.out.ltW
    have c11:=H5.out.c11
    obtain ⟨g5,hg5,lg5,hcg5,fg5⟩:=H5.out.rAt
    obtain rfl:g=g5:=by have:=HG.out.symm.trans hg5;cases this;rfl
    have r5:=hcg5 k _ (qS_at HSK.out)
    unfold WD.rv at c11
    rw [hg5,HNN.out] at c11
    simp only [Option.map_some] at r5
    have HK5:Hid (∀V,Below w5.heap.size w5 V→V.cell? ⟨o.W,11,none⟩=some (.slice (some ⟨g,0,none⟩) N o.cap)∧V.cell? ⟨g,k,none⟩=some (.pointer (some ⟨s.D.X,0,none⟩))):=hJ fun V hV=>⟨(hV.cell (p:=⟨o.W,11,none⟩) lW5).trans c11,(hV.cell (p:=⟨g,k,none⟩) lg5).trans r5⟩
    have HRG:=hJ (regions_b HSP5.out (by simp))
    have HSL:=hJ (fun (V:World) (hV:Below w5.heap.size w5 V)=>slots_b (HSP5.out.up hV) (by omega))
    clear hcg5 fg5 hg5
    go_upto_region 24 with (first
     |(go_at_call 24;refine HRG.out.mono ?_;rintro e w6 ⟨A6,c6,rfl,hf6⟩;have HF6:=hJ hf6;clear hf6 c11 r5;obtain ⟨c11,r5⟩:=HK5.out _ HF6.out.2)
     |(go_at_call 19;refine (HSL.out _ HF6.out.2).mono ?_;rintro e w7 ⟨A7,c7,sl,hsl,rfl,hf7⟩;have HB7:=hJ (HF6.out.2.trans (hf7.2.mono HF6.out.2.size));clear hf7 hsl c11 r5;obtain ⟨c11,r5⟩:=HK5.out _ HB7.out))
    have H7:=hJ (H5.out.up HB7.out)
    have lW7:=H7.out.ltW
    obtain ⟨g7,hg7,lg7,hcg7,fg7⟩:=H7.out.rAt
    obtain rfl:g=g7:=by have:=HG.out.symm.trans hg7;cases this;rfl
    have f7:=fg7 k
    have HFIN:=hJ (WS.del HR0.out HF0.out (H7.out.setQ hg7 (by have:=HNN.out;omega) k none) HP4.out HM5.out)
    clear hcg7 fg7 hg7 HK5 H5
    go_wp2
    go_ret
    refine ⟨rfl,t5,C5,_,P4,HFIN.out.less (by omega) (by omega),?_⟩
    rintro ⟨s0,hs0⟩
    refine ⟨s0,?_⟩
    rw [List.getElem?_set,if_neg hk0]
    exact hs0
 by_cases hk:kind=2∨kind=3∨kind=4∨kind=5∨kind=6
 · have HKD := hJ hk
   have n7:¬kind=7:=k7
   have n8:¬kind=8:=k8
   have HB8:=hJ (beq_eq_false_iff_ne.2 n8)
   have HS3:=hJ (HS3.out.less (kk':=kk+(8192+2*data.length)) (by omega) jN)
   clear hk k7 k8
   as_aux_lemma =>
    have HRT:=hJ (fun V:World=>mRight_any V kind (k:Nat) at_ n prot A m c)
    obtain ⟨r,hr⟩:∃r:Bool,right9 kind (((k:Nat):Int) !=0) (at_ !=0) (n !=0) (prot !=0) (decide (0<m))=r:=⟨_,rfl⟩
    rw [hr] at HRT
    have HRR:=hJ hr
    clear hr
    cases r with
    | false=>
      have HX:=hJ (fun (W:World) (hW:Below V3.heap.size V3 W)=>(HS3.out.up hW).str (kk':=kk) (U':=U+U1) (by omega) (by omega))
      go_upto_if 81 with (fail)
      refine Go.wp_cond_false (congrArg Value.bool HB8.out) ?_
      refine Go.wp_seq_k (fun K2 hK2=>?_)
      go_cut [128] from 129 to 133 (fun v V=>v=.bool true∧V=V3)
      case first=>
       rcases HKD.out with rfl|rfl|rfl|rfl|rfl
       all_goals
        go_wp2_with fail
        go_meet
        exact ⟨rfl,rfl⟩
      case rest=>
      obtain ⟨rfl,hW⟩:=hcut
      have hW2:=hW.symm
      subst hW2
      clear hW
      go_wp2_with (go_at_call 71;refine (HRT.out _).mono ?_;rintro e w4 ⟨rfl,hb4⟩;have HB4:=hJ hb4;clear hb4)
      go_ret
      exact ⟨rfl,HX.out _ HB4.out⟩
    |true=>
    have c10:=HS3.out.b.c10
    go_upto_if 81 with (fail)
    refine Go.wp_cond_false (congrArg Value.bool HB8.out) ?_
    refine Go.wp_seq_k (fun K2 hK2=>?_)
    go_cut [128] from 129 to 133 (fun v V=>v=.bool true∧V=V3)
    case first=>
     rcases HKD.out with rfl|rfl|rfl|rfl|rfl
     all_goals
      go_wp2_with fail
      go_meet
      exact ⟨rfl,rfl⟩
    case rest=>
    obtain ⟨rfl,hW⟩:=hcut
    have hW2:=hW.symm
    subst hW2
    clear hW
    all_goals
     go_upto_region 33 with (go_at_call 71;refine (HRT.out _).mono ?_;rintro e w4 ⟨rfl,hb4⟩;have HB4:=hJ hb4;clear hb4)
     have HS4:=hJ (HS3.out.up HB4.out)
     have HOP4:=hJ (HOP.out.up HB4.out)
     have HSD4:Hid (∀V,Below w4.heap.size w4 V→SBy V A m data):=hJ fun V hV=>(HSD.out.up (HB3K.out.trans (HB4.out.mono HB3K.out.size))).up hV
     obtain ⟨q0,q1,q2,q3,q4,q5⟩:=HOP4.out
     have d10:=HS4.out.b.c10
     have lW4:=HS4.out.b.ltW
     have lbo4:=lt_of_cell q0
     have HDO:=hJ (fun (kd:Int) (V:World) (hV:Below w4.heap.size w4 V)=>(HS4.out.up hV).do kd (k:Nat) at_ n prot (data:=data) (A:=A) c HUU.out.1 (by rw [←HM.out];exact HSD4.out V hV) (by rw [←HM.out];exact HAD.out))
     clear HS3 HOP HB4 o0 o1 o2 o3 o4 o5 lbo lW3 c10 HRT
     have HNM:Hid (¬maO o.D P o.W∧¬maO o.D P bo):=hJ ⟨fun e=>(HS4.out.b.s1 _ e).2 (.inl rfl),fun e=>HBW.out (.inr (.inl e))⟩
     obtain ⟨p,hp,hr,hd⟩:=HS4.out.r.at_ HSK.out
     have HPK:=hJ hp
     have HRL:=hJ (And.intro hr hd)
     have HR0:=hJ HS4.out.r
     have HF0:=hJ HS4.out.few
     have HDF:=hJ (doF_op (S:=o.D.sd) (o:=⟨kind,(k:Nat),at_,n,prot,data⟩) (by rw [←right9_op HM.out.symm];exact HRR.out) HKD.out rfl hp)
     obtain ⟨r9,hr9⟩:∃r:PrP×Int×Bytes,(opP o.D.sd p ⟨kind,(k:Nat),at_,n,prot,data⟩)=r:=⟨_,rfl⟩
     rw [hr9] at HDF
     have HR9:=hJ hr9
     obtain ⟨er,her⟩:∃x,r9.2.1=x:=⟨_,rfl⟩
     obtain ⟨bl,hbl⟩:∃x,r9.2.2.length=x:=⟨_,rfl⟩
     have HBL:=hJ hbl
     have HER:=hJ her
     clear hp hr hd hr9 hbl her
     have HOF:Hid (∀(V V':World) (S:Nat→Prop),(V.cell? ⟨o.W,10,none⟩=some (.pointer (some ⟨o.D.X,0,none⟩))∧V.cell? ⟨bo,0,none⟩=some (.int .i64 kind)∧V.cell? ⟨bo,1,none⟩=some (.int .i64 (k:Nat))∧V.cell? ⟨bo,2,none⟩=some (.int .i64 at_)∧V.cell? ⟨bo,3,none⟩=some (.int .i64 n)∧V.cell? ⟨bo,4,none⟩=some (.int .i64 prot)∧V.cell? ⟨bo,5,none⟩=some (.slice A m c))→Off S V V'→¬S o.W→¬S bo→(V'.cell? ⟨o.W,10,none⟩=some (.pointer (some ⟨o.D.X,0,none⟩))∧V'.cell? ⟨bo,0,none⟩=some (.int .i64 kind)∧V'.cell? ⟨bo,1,none⟩=some (.int .i64 (k:Nat))∧V'.cell? ⟨bo,2,none⟩=some (.int .i64 at_)∧V'.cell? ⟨bo,3,none⟩=some (.int .i64 n)∧V'.cell? ⟨bo,4,none⟩=some (.int .i64 prot)∧V'.cell? ⟨bo,5,none⟩=some (.slice A m c))):=hJ fun V V' S ⟨h1,h2,h3,h4,h5,h6,h7⟩ hb nW nb=>
      ⟨(hb.cell (p:=⟨o.W,10,none⟩) (lt_of_cell h1) nW).trans h1,(hb.cell (p:=⟨bo,0,none⟩) (lt_of_cell h2) nb).trans h2,(hb.cell (p:=⟨bo,1,none⟩) (lt_of_cell h3) nb).trans h3,(hb.cell (p:=⟨bo,2,none⟩) (lt_of_cell h4) nb).trans h4,(hb.cell (p:=⟨bo,3,none⟩) (lt_of_cell h5) nb).trans h5,(hb.cell (p:=⟨bo,4,none⟩) (lt_of_cell h6) nb).trans h6,(hb.cell (p:=⟨bo,5,none⟩) (lt_of_cell h7) nb).trans h7⟩
     have HS0:Hid (w4.cell? ⟨o.W,10,none⟩=some (.pointer (some ⟨o.D.X,0,none⟩))∧w4.cell? ⟨bo,0,none⟩=some (.int .i64 kind)∧w4.cell? ⟨bo,1,none⟩=some (.int .i64 (k:Nat))∧w4.cell? ⟨bo,2,none⟩=some (.int .i64 at_)∧w4.cell? ⟨bo,3,none⟩=some (.int .i64 n)∧w4.cell? ⟨bo,4,none⟩=some (.int .i64 prot)∧w4.cell? ⟨bo,5,none⟩=some (.slice A m c)):=hJ ⟨d10,q0,q1,q2,q3,q4,q5⟩
     have HBa:Hid (Below w4.heap.size w4 w4.drew):=hJ jB.drew
     have HBb:Hid (Below w4.heap.size w4 (w4.alloc (.cells #[.int .i64 0,.int .i64 0,.slice none 0 0,.slice none 0 0] 76)).drew):=hJ (jB.alloc jN _).drew
     have HSB:Hid (∀(V:World),Below w4.heap.size w4 V→(V.cell? ⟨o.W,10,none⟩=some (.pointer (some ⟨o.D.X,0,none⟩))∧V.cell? ⟨bo,0,none⟩=some (.int .i64 kind)∧V.cell? ⟨bo,1,none⟩=some (.int .i64 (k:Nat))∧V.cell? ⟨bo,2,none⟩=some (.int .i64 at_)∧V.cell? ⟨bo,3,none⟩=some (.int .i64 n)∧V.cell? ⟨bo,4,none⟩=some (.int .i64 prot)∧V.cell? ⟨bo,5,none⟩=some (.slice A m c))):=hJ fun V hV=>HOF.out w4 V (fun _=>False) HS0.out (Off.of_below hV) id id
     have HSA:Hid (∀(V:World) (x:Obj),(V.cell? ⟨o.W,10,none⟩=some (.pointer (some ⟨o.D.X,0,none⟩))∧V.cell? ⟨bo,0,none⟩=some (.int .i64 kind)∧V.cell? ⟨bo,1,none⟩=some (.int .i64 (k:Nat))∧V.cell? ⟨bo,2,none⟩=some (.int .i64 at_)∧V.cell? ⟨bo,3,none⟩=some (.int .i64 n)∧V.cell? ⟨bo,4,none⟩=some (.int .i64 prot)∧V.cell? ⟨bo,5,none⟩=some (.slice A m c))→((V.alloc x).cell? ⟨o.W,10,none⟩=some (.pointer (some ⟨o.D.X,0,none⟩))∧(V.alloc x).cell? ⟨bo,0,none⟩=some (.int .i64 kind)∧(V.alloc x).cell? ⟨bo,1,none⟩=some (.int .i64 (k:Nat))∧(V.alloc x).cell? ⟨bo,2,none⟩=some (.int .i64 at_)∧(V.alloc x).cell? ⟨bo,3,none⟩=some (.int .i64 n)∧(V.alloc x).cell? ⟨bo,4,none⟩=some (.int .i64 prot)∧(V.alloc x).cell? ⟨bo,5,none⟩=some (.slice A m c))):=hJ fun V x h=>HOF.out V _ (fun _=>False) h (Off.of_below (jB.alloc jN _)) id id
     have HNE:Hid (¬o.W=w4.heap.size∧¬bo=w4.heap.size):=hJ ⟨by omega,by omega⟩
     have HSW:Hid (∀(V:World) (v0 v1 v2 v3:Value),(V.cell? ⟨o.W,10,none⟩=some (.pointer (some ⟨o.D.X,0,none⟩))∧V.cell? ⟨bo,0,none⟩=some (.int .i64 kind)∧V.cell? ⟨bo,1,none⟩=some (.int .i64 (k:Nat))∧V.cell? ⟨bo,2,none⟩=some (.int .i64 at_)∧V.cell? ⟨bo,3,none⟩=some (.int .i64 n)∧V.cell? ⟨bo,4,none⟩=some (.int .i64 prot)∧V.cell? ⟨bo,5,none⟩=some (.slice A m c))→((ansW V w4.heap.size v0 v1 v2 v3).cell? ⟨o.W,10,none⟩=some (.pointer (some ⟨o.D.X,0,none⟩))∧(ansW V w4.heap.size v0 v1 v2 v3).cell? ⟨bo,0,none⟩=some (.int .i64 kind)∧(ansW V w4.heap.size v0 v1 v2 v3).cell? ⟨bo,1,none⟩=some (.int .i64 (k:Nat))∧(ansW V w4.heap.size v0 v1 v2 v3).cell? ⟨bo,2,none⟩=some (.int .i64 at_)∧(ansW V w4.heap.size v0 v1 v2 v3).cell? ⟨bo,3,none⟩=some (.int .i64 n)∧(ansW V w4.heap.size v0 v1 v2 v3).cell? ⟨bo,4,none⟩=some (.int .i64 prot)∧(ansW V w4.heap.size v0 v1 v2 v3).cell? ⟨bo,5,none⟩=some (.slice A m c))):=hJ fun V v0 v1 v2 v3 h=>HOF.out V _ (· =w4.heap.size) h (ans_off V w4.heap.size v0 v1 v2 v3) HNE.out.1 HNE.out.2
     have HAN0:Hid (AnAt (w4.alloc (.cells #[.int .i64 0,.int .i64 0,.slice none 0 0,.slice none 0 0] 76)).drew w4.heap.size∧¬maO o.D P w4.heap.size):=hJ ⟨(AnAt.new w4).up jB.drew,fun e=>by have:=HS4.out.b.ma.lt e;omega⟩
     rw [HM.out.symm] at HDO
     go_region_held3 (fun V=>V.cell? ⟨o.W,10,none⟩=some (.pointer (some ⟨o.D.X,0,none⟩))∧V.cell? ⟨bo,0,none⟩=some (.int .i64 kind)∧V.cell? ⟨bo,1,none⟩=some (.int .i64 (k:Nat))∧V.cell? ⟨bo,2,none⟩=some (.int .i64 at_)∧V.cell? ⟨bo,3,none⟩=some (.int .i64 n)∧V.cell? ⟨bo,4,none⟩=some (.int .i64 prot)∧V.cell? ⟨bo,5,none⟩=some (.slice A m c)) (first|(with_reducible exact HS0.out)|(with_reducible exact HSB.out _ HBa.out)|(with_reducible exact HSB.out _ HBb.out)|(with_reducible exact HSB.out _ (jB.alloc jN _))|(with_reducible exact KS.out)|(with_reducible exact HSA.out _ _ KS.out)|(exact HSW.out _ _ _ _ _ KS.out))
      ((go_at_call 70;first|((with_reducible refine (HDO.out _ _ HBa.out).mono ?_);rintro e w5 ⟨P5,h5,hp5,ha5,ho5,hw5⟩;rw [HDF.out] at hp5 ha5;obtain ⟨Ad,cd,Ap,cp,he5,hb5,_,ha5,_⟩:=ha5;unfold ansV at he5;simp only at he5;rw [HER.out,HBL.out] at he5;obtain rfl:=he5;have KS:Hid (w5.cell? ⟨o.W,10,none⟩=some (.pointer (some ⟨o.D.X,0,none⟩))∧w5.cell? ⟨bo,0,none⟩=some (.int .i64 kind)∧w5.cell? ⟨bo,1,none⟩=some (.int .i64 (k:Nat))∧w5.cell? ⟨bo,2,none⟩=some (.int .i64 at_)∧w5.cell? ⟨bo,3,none⟩=some (.int .i64 n)∧w5.cell? ⟨bo,4,none⟩=some (.int .i64 prot)∧w5.cell? ⟨bo,5,none⟩=some (.slice A m c)):=hJ (HOF.out _ w5 _ (HSB.out _ HBa.out) ho5 HNM.out.1 HNM.out.2);have H5:=hJ h5;have HP5:=hJ hp5;have HA5:=hJ ha5;have HB5:=hJ hb5;have HO5:=hJ ho5;have HW5:=hJ hw5;clear h5 hp5 ha5 hb5 ho5 hw5)|((with_reducible refine (HDO.out _ _ HBb.out).mono ?_);rintro e w5 ⟨P5,h5,hp5,ha5,ho5,hw5⟩;rw [HDF.out] at hp5 ha5;obtain ⟨Ad,cd,Ap,cp,he5,hb5,_,ha5,_⟩:=ha5;unfold ansV at he5;simp only at he5;rw [HER.out,HBL.out] at he5;obtain rfl:=he5;have KS:Hid (w5.cell? ⟨o.W,10,none⟩=some (.pointer (some ⟨o.D.X,0,none⟩))∧w5.cell? ⟨bo,0,none⟩=some (.int .i64 kind)∧w5.cell? ⟨bo,1,none⟩=some (.int .i64 (k:Nat))∧w5.cell? ⟨bo,2,none⟩=some (.int .i64 at_)∧w5.cell? ⟨bo,3,none⟩=some (.int .i64 n)∧w5.cell? ⟨bo,4,none⟩=some (.int .i64 prot)∧w5.cell? ⟨bo,5,none⟩=some (.slice A m c)):=hJ (HOF.out _ w5 _ (HSB.out _ HBb.out) ho5 HNM.out.1 HNM.out.2);have H5:=hJ h5;have HP5:=hJ hp5;have HA5:=hJ ha5;have HB5:=hJ hb5;have HO5:=hJ ho5;have HW5:=hJ hw5;have HA6:=hJ (HAN0.out.1.off ho5 HAN0.out.2);have z0:=HA6.out.c0;have z1:=HA6.out.c1;have z2:=HA6.out.c2;have z3:=HA6.out.c3;have y0:=HA6.out.fz 0;have y1:=HA6.out.fz 1;have y2:=HA6.out.fz 2;have y3:=HA6.out.fz 3;clear h5 hp5 ha5 hb5 ho5 hw5)))
     ·
      have HAG:Hid (∀g o',Ad=some ⟨g,o',none⟩→¬swO o.d t (lS sp) g):=hJ fun g o' e e2=>by
       have h1:=HA5.out g o' e
       have h2:=HS4.out.b.lw.sw.lt e2
       have h3:=HBa.out.size
       omega
      go_upto_region 34 with (fail)
      refine wp_forget (fun V=>WB w0 V o t C (kk+(8192+2*m)) (lS sp) P5 (qS sp)∧(V.cell? ⟨o.W,10,none⟩=some (.pointer (some ⟨o.D.X,0,none⟩))∧V.cell? ⟨bo,0,none⟩=some (.int .i64 kind)∧V.cell? ⟨bo,1,none⟩=some (.int .i64 (k:Nat))∧V.cell? ⟨bo,2,none⟩=some (.int .i64 at_)∧V.cell? ⟨bo,3,none⟩=some (.int .i64 n)∧V.cell? ⟨bo,4,none⟩=some (.int .i64 prot)∧V.cell? ⟨bo,5,none⟩=some (.slice A m c))∧V.cell? ⟨w5.heap.size,0,none⟩=some (.int .i64 er)∧V.cell? ⟨w5.heap.size,2,none⟩=some (.slice Ad bl cd)∧SBy V Ad bl r9.2.2∧¬swO o.d t (lS sp) w5.heap.size∧∀g o',Ad=some ⟨g,o',none⟩→¬swO o.d t (lS sp) g) ⟨H5.out.up (jB.alloc jN _),HSA.out _ _ KS.out,by rw [cell_of_row _ _ _ _ _ _ (heap_alloc_new w5 _)];rfl,by rw [cell_of_row _ _ _ _ _ _ (heap_alloc_new w5 _)];rfl,by rw [←HBL.out];exact HB5.out.up (jB.alloc jN _),fun e=>by have:=H5.out.lw.sw.lt e;omega,HAG.out⟩ ?_
      obtain ⟨ba,hba⟩:∃b,w5.heap.size=b:=⟨_,rfl⟩
      rw [hba]
      clear hba
      rintro V6 ⟨h6,⟨d6,e0,e1,e2,e3,e4,e5⟩,a0,a2,hs6,hn6,hg6⟩
      have h66:=(h6.less (k':=kk+(8192+2*data.length)) (by have:=HM.out;omega)).perm (lS_out HSK.out)
      have H66:=hJ h66
      have lW6:=h6.ltW
      have lb6:=lt_of_cell e0
      have lba:=lt_of_cell a0
      have HN6:Hid (¬swO o.d t (s::lS (sp.set k none)) ba∧∀g o',Ad=some ⟨g,o',none⟩→¬swO o.d t (s::lS (sp.set k none)) g):=hJ ⟨fun e=>hn6 ((swO_perm (lS_out HSK.out)).2 e),fun g o' e e2=>hg6 g o' e ((swO_perm (lS_out HSK.out)).2 e2)⟩
      have HS6:=hJ hs6
      have HD16:=hJ (do16_any HKD.out (k:Nat) at_ n prot c (A:=A) (kk:=kk) (p:=p) H66.out (qS_at HSK.out) HRL.out.1 HRL.out.2 HUU.out.2.2.2.2 (by rw [←HM.out];exact HSD.out.low HAD.out HW0B.out H66.out.bel) HUU.out.2.2.1 (by have:=HUU.out.2.2.2.1;omega) (fun g o' n' c' e hp=>by injection e with e1 e2 e3;have h1:=HAD.out g o' (by rw [HM.out];omega) e1;exact ⟨Nat.lt_of_lt_of_le h1 H66.out.bel.size,fun e4=>by have:=H66.out.lw.own g (.inl e4);omega⟩))
      rw [HR9.out] at HD16
      rw [←HM.out] at HD16
      clear h6 h66 hn6 hg6 hs6
      go_upto_region 35 with (go_at_call 72;refine HD16.out.mono ?_;rintro e w7 ⟨A7,c7,he7,hs7,t7,C7,s7,h7,hD7,hr7,hm7,ho7⟩;rw [HER.out,HBL.out] at he7;obtain rfl:=he7;rw [HBL.out] at hs7;have HS7:=hJ hs7;have H7:=hJ h7;have HD7:=hJ hD7;have HR7:=hJ hr7;have HM7:=hJ hm7;have HO7:=hJ ho7;clear hs7 h7 hD7 hr7 hm7 ho7)
      have hkl:k<(plP P).length:=(jS.1 HPK.out).1
      obtain ⟨p5,hp5,hpl5⟩:=plP_get (P:=P5) (k:=k) (q:=r9.1) (by rw [HP5.out,List.getElem?_set,if_pos rfl,if_pos hkl])
      have hlen5:p5.L.length≤U+data.length∧r9.1.L.length≤U+data.length:=by
       have h1:=opP_len o.D.sd p ⟨kind,(k:Nat),at_,n,prot,data⟩
       rw [HR9.out] at h1
       have h2:=HF0.out p (jG HPK.out)
       have h3:p5.pl.L.length=p5.L.length:=by unfold MPr.pl;simp
       rw [hpl5] at h3
       simp only at h1
       omega
      have HFIN:=hJ (WS.put (U':=U+U1) HR0.out HF0.out HSK.out H7.out HD7.out HP5.out HR7.out HRL.out.2 HM7.out (by omega) (by have:=HUU.out.2.1;omega))
      have HSM:=hJ (same16 (k:=k) (s:=s7) (p:=p5) H7.out jM (by rw [HD7.out];exact qS_at HSK.out) hp5 (by rw [hpl5];exact HR7.out) (by have:=HUU.out.1;omega))
      have k0:=(HO7.out.cell (p:=⟨ba,0,none⟩) lba HN6.out.1).trans a0
      have k2:=(HO7.out.cell (p:=⟨ba,2,none⟩) lba HN6.out.1).trans a2
      have hst1:(convert 24 9 (.slice A7 bl c7)).run Tryz.prog w7=.ok (.string (strB r9.2.2)) w7:=HS7.out.str c7
      have hst2:(convert 24 9 (.slice Ad bl cd)).run Tryz.prog w7=.ok (.string (strB r9.2.2)) w7:=(HS6.out.off HO7.out HN6.out.2).str cd
      have lb7:=lt_of_cell k0
      clear hkl hp5 hpl5 hlen5 e0 e1 e2 e3 e4 e5 d6 a0 a2 lW6 lb6 lba HD16
      obtain ⟨sb,hsb⟩:∃x,strB r9.2.2=x:=⟨_,rfl⟩
      rw [hsb] at hst1 hst2
      clear hsb
      go_wp2_with (go_at_call 73;refine HSM.out.mono ?_;rintro e w8 ⟨rfl,hb8⟩;have HB8:=hJ hb8;clear hb8)
      go_ret
      exact ⟨rfl,t7,C7,_,P5,HFIN.out.up HB8.out,fun h0=>put_first h0⟩
     ·
      have HAG:Hid (∀g o',Ad=some ⟨g,o',none⟩→¬swO o.d t (lS sp) g):=hJ fun g o' e e2=>by
       have h1:=HA5.out g o' e
       have h2:=HS4.out.b.lw.sw.lt e2
       have h3:=HBb.out.size
       omega
      go_upto_region 34 with (fail)
      refine wp_forget (fun V=>WB w0 V o t C (kk+(8192+2*m)) (lS sp) P5 (qS sp)∧(V.cell? ⟨o.W,10,none⟩=some (.pointer (some ⟨o.D.X,0,none⟩))∧V.cell? ⟨bo,0,none⟩=some (.int .i64 kind)∧V.cell? ⟨bo,1,none⟩=some (.int .i64 (k:Nat))∧V.cell? ⟨bo,2,none⟩=some (.int .i64 at_)∧V.cell? ⟨bo,3,none⟩=some (.int .i64 n)∧V.cell? ⟨bo,4,none⟩=some (.int .i64 prot)∧V.cell? ⟨bo,5,none⟩=some (.slice A m c))∧V.cell? ⟨w4.heap.size,0,none⟩=some (.int .i64 er)∧V.cell? ⟨w4.heap.size,2,none⟩=some (.slice Ad bl cd)∧SBy V Ad bl r9.2.2∧¬swO o.d t (lS sp) w4.heap.size∧∀g o',Ad=some ⟨g,o',none⟩→¬swO o.d t (lS sp) g) (by
       have ho:=ans_off w5 w4.heap.size (.int .i64 er) (.int .i64 0) (.slice Ad bl cd) (.slice Ap 0 cp)
       obtain ⟨y0',_,y2',_⟩:=ans_cells z0 z1 z2 z3 (.int .i64 er) (.int .i64 0) (.slice Ad bl cd) (.slice Ap 0 cp)
       have hnw:∀b,b=w4.heap.size→¬wO o t (lS sp) P5 b:=fun b e e2=>by
        rcases e2 with e2|e2|e2
        · have:=HS4.out.b.lw.sw.lt e2;omega
        · rcases HW5.out b e2 with e3|e3
          · have:=HS4.out.b.ma.lt e3;omega
          · have h3:w4.heap.size+1≤b:=by
             refine Nat.le_trans ?_ e3
             simp
            omega
        · have:=HS4.out.b.ltR e2;omega
       have h0:=HS4.out.b.bel.size
       exact ⟨H5.out.off ho hnw (fun b e=>by omega),HSW.out _ _ _ _ _ KS.out,y0',y2',by
        have hs5:=HB5.out
        rw [HBL.out] at hs5
        exact hs5.off ho fun g o' e e2=>by
         have h1:=HA5.out g o' e
         have h3:w4.heap.size+1≤g:=by
          refine Nat.le_trans ?_ h1
          simp
         omega,fun e=>hnw _ rfl (.inl e),HAG.out⟩) ?_
      obtain ⟨ba,hba⟩:∃b,w4.heap.size=b:=⟨_,rfl⟩
      rw [hba]
      clear hba
      rintro V6 ⟨h6,⟨d6,e0,e1,e2,e3,e4,e5⟩,a0,a2,hs6,hn6,hg6⟩
      have h66:=(h6.less (k':=kk+(8192+2*data.length)) (by have:=HM.out;omega)).perm (lS_out HSK.out)
      have H66:=hJ h66
      have lW6:=h6.ltW
      have lb6:=lt_of_cell e0
      have lba:=lt_of_cell a0
      have HN6:Hid (¬swO o.d t (s::lS (sp.set k none)) ba∧∀g o',Ad=some ⟨g,o',none⟩→¬swO o.d t (s::lS (sp.set k none)) g):=hJ ⟨fun e=>hn6 ((swO_perm (lS_out HSK.out)).2 e),fun g o' e e2=>hg6 g o' e ((swO_perm (lS_out HSK.out)).2 e2)⟩
      have HS6:=hJ hs6
      have HD16:=hJ (do16_any HKD.out (k:Nat) at_ n prot c (A:=A) (kk:=kk) (p:=p) H66.out (qS_at HSK.out) HRL.out.1 HRL.out.2 HUU.out.2.2.2.2 (by rw [←HM.out];exact HSD.out.low HAD.out HW0B.out H66.out.bel) HUU.out.2.2.1 (by have:=HUU.out.2.2.2.1;omega) (fun g o' n' c' e hp=>by injection e with e1 e2 e3;have h1:=HAD.out g o' (by rw [HM.out];omega) e1;exact ⟨Nat.lt_of_lt_of_le h1 H66.out.bel.size,fun e4=>by have:=H66.out.lw.own g (.inl e4);omega⟩))
      rw [HR9.out] at HD16
      rw [←HM.out] at HD16
      clear h6 h66 hn6 hg6 hs6
      go_upto_region 35 with (go_at_call 72;refine HD16.out.mono ?_;rintro e w7 ⟨A7,c7,he7,hs7,t7,C7,s7,h7,hD7,hr7,hm7,ho7⟩;rw [HER.out,HBL.out] at he7;obtain rfl:=he7;rw [HBL.out] at hs7;have HS7:=hJ hs7;have H7:=hJ h7;have HD7:=hJ hD7;have HR7:=hJ hr7;have HM7:=hJ hm7;have HO7:=hJ ho7;clear hs7 h7 hD7 hr7 hm7 ho7)
      have hkl:k<(plP P).length:=(jS.1 HPK.out).1
      obtain ⟨p5,hp5,hpl5⟩:=plP_get (P:=P5) (k:=k) (q:=r9.1) (by rw [HP5.out,List.getElem?_set,if_pos rfl,if_pos hkl])
      have hlen5:p5.L.length≤U+data.length∧r9.1.L.length≤U+data.length:=by
       have h1:=opP_len o.D.sd p ⟨kind,(k:Nat),at_,n,prot,data⟩
       rw [HR9.out] at h1
       have h2:=HF0.out p (jG HPK.out)
       have h3:p5.pl.L.length=p5.L.length:=by unfold MPr.pl;simp
       rw [hpl5] at h3
       simp only at h1
       omega
      have HFIN:=hJ (WS.put (U':=U+U1) HR0.out HF0.out HSK.out H7.out HD7.out HP5.out HR7.out HRL.out.2 HM7.out (by omega) (by have:=HUU.out.2.1;omega))
      have HSM:=hJ (same16 (k:=k) (s:=s7) (p:=p5) H7.out jM (by rw [HD7.out];exact qS_at HSK.out) hp5 (by rw [hpl5];exact HR7.out) (by have:=HUU.out.1;omega))
      have k0:=(HO7.out.cell (p:=⟨ba,0,none⟩) lba HN6.out.1).trans a0
      have k2:=(HO7.out.cell (p:=⟨ba,2,none⟩) lba HN6.out.1).trans a2
      have hst1:(convert 24 9 (.slice A7 bl c7)).run Tryz.prog w7=.ok (.string (strB r9.2.2)) w7:=HS7.out.str c7
      have hst2:(convert 24 9 (.slice Ad bl cd)).run Tryz.prog w7=.ok (.string (strB r9.2.2)) w7:=(HS6.out.off HO7.out HN6.out.2).str cd
      have lb7:=lt_of_cell k0
      clear hkl hp5 hpl5 hlen5 e0 e1 e2 e3 e4 e5 d6 a0 a2 lW6 lb6 lba HD16
      obtain ⟨sb,hsb⟩:∃x,strB r9.2.2=x:=⟨_,rfl⟩
      rw [hsb] at hst1 hst2
      clear hsb
      go_wp2_with (go_at_call 73;refine HSM.out.mono ?_;rintro e w8 ⟨rfl,hb8⟩;have HB8:=hJ hb8;clear hb8)
      go_ret
      exact ⟨rfl,t7,C7,_,P5,HFIN.out.up HB8.out,fun h0=>put_first h0⟩
 · have HS3:=hJ (HS3.out.less (kk':=kk+(o.d.n+1)) (by omega) jN)
   as_aux_lemma=>
    have c9:=HS3.out.b.c9
    have HE:=hJ (fun (V:World) (hV:Below V3.heap.size V3 V)=>(HS3.out.up hV).evict n (cst:=U+U1) (by omega))
    obtain ⟨n7,n8,n2,n3,n4,n5,n6⟩:¬kind=7∧¬kind=8∧¬kind=2∧¬kind=3∧¬kind=4∧¬kind=5∧¬kind=6:=⟨k7,k8,by omega,by omega,by omega,by omega,by omega⟩
    clear hk k7 k8
    go_upto_region 36 with (fail)
    go_still_tail 6,(by kernel_rfl)
    go_wp2_with (go_at_call 47;refine (HE.out _ jB.drew).mono ?_;rintro e w5 ⟨v,rfl,hp⟩;have HPO:=hJ hp;clear hp)
    go_ret
    exact HPO.out
end
end Go.Proofs.YtlhfjaagkgengaaGreat
