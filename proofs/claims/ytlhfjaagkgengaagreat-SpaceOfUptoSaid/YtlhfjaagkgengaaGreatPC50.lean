/- SpaceOf, walked. -/
import Derived.Test.YtlhfjaagkgengaaGreatPC49
import Derived.Test.YtlhfjaagkgengaaGreatPC47
namespace Go.Proofs.YtlhfjaagkgengaaGreat
set_option maxRecDepth 100000
open Go.RowKit Go.Maps
set_option linter.unusedVariables false
set_option linter.unusedSimpArgs false
open Classical in
set_option maxHeartbeats 8000000 in
theorem of16_any (W : World) {cf:Nat→Int} {A AR AS:Option Addr} {c cR cS:Nat} {L:List Ac16} {LR:List Rg} {LS:List (Int×Int)} (h:EAt acE W A L) (hin:∀x∈L,x.In W) (hs:L.length≤100→sumR (L.map Ac16.op)≤1000000000) (hn:L.length≤1048576)
 (hR:RgAt W AR LR) (hRn:LR.length≤1048576) (hS:EAt slE W AS LS) (hSn:LS.length≤1048576) (hid:∀x∈LS,i64R x.1∧i64R x.2):
 Calls Tryz.prog 4 #[cfgV cf,.slice A L.length c,.slice AR LR.length cR,.slice AS LS.length cS] W fun e w'=>e=.returned (.bool true)∧Below W.heap.size W w':=by
 have HRG:=hJ hR
 have HSG:=hJ hS
 have HID:=hJ hid
 clear hR hS hid
 have HP:=hJ (fun (V:World) (hV:Below W.heap.size W V)=>h.up hV)
 have HIN:=hJ (fun (V:World) (hV:Below W.heap.size W V) x (hx:x∈L)=>(hin x hx).up hV)
 have HFW:=hJ (fun (V:World) (hV:Below W.heap.size W V)=>few16_any (c:=c) (h.up hV) hs hn)
 have HSM:=hJ (fun V:World=>small_any V cf)
 clear h hin
 unfold cfgV at HSM ⊢
 go_enter Tryz.func4,Tryz.ntmps4
 have HC:Hid (∀V,Below (W.alloc (.cells #[.int .i64 (cf 0),.int .i64 (cf 1),.int .i64 (cf 2),.int .i64 (cf 3),.int .i64 (cf 4),.int .i64 (cf 5),.int .i64 (cf 6),.int .i64 (cf 7),.int .i64 (cf 8)] 23)).heap.size (W.alloc (.cells #[.int .i64 (cf 0),.int .i64 (cf 1),.int .i64 (cf 2),.int .i64 (cf 3),.int .i64 (cf 4),.int .i64 (cf 5),.int .i64 (cf 6),.int .i64 (cf 7),.int .i64 (cf 8)] 23)) V→_):=hJ fun V hb=>cfg_cells hb
 go_wp2_with fail
 have hwa:Below W.heap.size W (W.alloc (.cells #[.int .i64 (cf 0),.int .i64 (cf 1),.int .i64 (cf 2),.int .i64 (cf 3),.int .i64 (cf 4),.int .i64 (cf 5),.int .i64 (cf 6),.int .i64 (cf 7),.int .i64 (cf 8)] 23)):=jB.alloc jN _
 generalize (W.alloc (.cells #[.int .i64 (cf 0),.int .i64 (cf 1),.int .i64 (cf 2),.int .i64 (cf 3),.int .i64 (cf 4),.int .i64 (cf 5),.int .i64 (cf 6),.int .i64 (cf 7),.int .i64 (cf 8)] 23))=wa at *
 have HWA:=hJ hwa
 clear hwa
 refine (known16_any _).mono ?_
 rintro e w1 ⟨rfl,hb1⟩
 have HB1:=hJ hb1
 obtain ⟨c0,c1,c2,c3,c4,c5,c6,c7,c8⟩:=HC.out _ hb1
 obtain ⟨n,hln⟩:∃n,L.length=n:=⟨_,rfl⟩
 rw [hln] at hn HFW ⊢
 have HLN:=hJ hln
 clear hb1 hln
 obtain ⟨nR,hlR⟩:∃n,LR.length=n:=⟨_,rfl⟩
 obtain ⟨nS,hlS⟩:∃n,LS.length=n:=⟨_,rfl⟩
 rw [hlR] at hRn
 rw [hlS] at hSn
 rw [hlR,hlS]
 have HLR:=hJ hlR
 have HLS:=hJ hlS
 clear hlR hlS
 go_upto_region 3 with (fail)
 go_cut [43] from 26 to 42 (fun v V=>∃bb,v=.bool bb∧Below wa.heap.size wa V∧(bb=false→(GoodC cf∧cf 4≤512)∧few16B L=true∧nR≤50∧nS≤100))
 case first=>
  obtain ⟨sm,hsm⟩:∃sm,decide (GoodC cf∧cf 4≤512)=sm:=⟨_,rfl⟩
  obtain ⟨fw,hfw⟩:∃fw,few16B L=fw:=⟨_,rfl⟩
  rw [hsm] at HSM
  rw [hfw] at HFW
  have HE:=hJ (And.intro hsm hfw)
  clear hsm hfw
  cases sm with
  | false=>
    go_wp2_with (first|(go_at_call 13;refine (HSM.out _).mono ?_;rintro e w2 ⟨rfl,hb2⟩;have HB2:=hJ (HB1.out.trans (hb2.mono HB1.out.size));clear hb2))
    go_meet
    exact ⟨true,rfl,HB2.out,fun e=>by cases e⟩
  | true=>
    have HG:=hJ (@of_decide_eq_true _ (_) HE.out.1)
    cases fw with
    | false=>
      go_wp2_with (first|(go_at_call 13;refine (HSM.out _).mono ?_;rintro e w2 ⟨rfl,hb2⟩;have HB2:=hJ (HB1.out.trans (hb2.mono HB1.out.size));clear hb2)|(go_at_call 20;refine (HFW.out _ (HWA.out.trans (HB2.out.mono HWA.out.size))).mono ?_;rintro e w3 ⟨rfl,hb3⟩;have HB3:=hJ (HB2.out.trans (hb3.mono HB2.out.size));clear hb3))
      go_meet
      exact ⟨true,rfl,HB3.out,fun e=>by cases e⟩
    | true=>
      by_cases q1:(50:Int)<(nR:Int)
      · go_wp2_with (first|(go_at_call 13;refine (HSM.out _).mono ?_;rintro e w2 ⟨rfl,hb2⟩;have HB2:=hJ (HB1.out.trans (hb2.mono HB1.out.size));clear hb2)|(go_at_call 20;refine (HFW.out _ (HWA.out.trans (HB2.out.mono HWA.out.size))).mono ?_;rintro e w3 ⟨rfl,hb3⟩;have HB3:=hJ (HB2.out.trans (hb3.mono HB2.out.size));clear hb3))
        go_meet
        exact ⟨true,rfl,HB3.out,fun e=>by cases e⟩
      · by_cases q2:(100:Int)<(nS:Int)
        · go_wp2_with (first|(go_at_call 13;refine (HSM.out _).mono ?_;rintro e w2 ⟨rfl,hb2⟩;have HB2:=hJ (HB1.out.trans (hb2.mono HB1.out.size));clear hb2)|(go_at_call 20;refine (HFW.out _ (HWA.out.trans (HB2.out.mono HWA.out.size))).mono ?_;rintro e w3 ⟨rfl,hb3⟩;have HB3:=hJ (HB2.out.trans (hb3.mono HB2.out.size));clear hb3))
          go_meet
          exact ⟨true,rfl,HB3.out,fun e=>by cases e⟩
        · have HQ:Hid (nR≤50∧nS≤100):=hJ (by omega)
          go_wp2_with (first|(go_at_call 13;refine (HSM.out _).mono ?_;rintro e w2 ⟨rfl,hb2⟩;have HB2:=hJ (HB1.out.trans (hb2.mono HB1.out.size));clear hb2)|(go_at_call 20;refine (HFW.out _ (HWA.out.trans (HB2.out.mono HWA.out.size))).mono ?_;rintro e w3 ⟨rfl,hb3⟩;have HB3:=hJ (HB2.out.trans (hb3.mono HB2.out.size));clear hb3))
          go_meet
          exact ⟨_,rfl,HB3.out,fun _=>⟨HG.out,HE.out.2,HQ.out⟩⟩
 case rest=>
 obtain ⟨bb,rfl,hb4,hok⟩:=hcut
 have HB4:=hJ hb4
 have HOK:=hJ hok
 clear c0 c1 c2 c3 c4 c5 c6 c7 c8 hb4 hok HFW HSM HB1
 cases bb with
 | true=>
   have HX:=hJ (HWA.out.trans (HB4.out.mono HWA.out.size))
   go_wp2
   go_ret
   exact ⟨rfl,HX.out⟩
 |false=>
 obtain ⟨⟨hg,h5⟩,hfew,hq1,hq2⟩:=HOK.out rfl
 have HG:=hJ hg
 have HFEW:=hJ (few16_at hfew)
 obtain ⟨c0,c1,c2,c3,c4,c5,c6,c7,c8⟩:=HC.out _ HB4.out
 have HBG:=hJ (begun16_any wc (held:=8) hg (by omega))
 unfold cfgV at HBG
 clear hg h5 hfew HOK
 go_upto_region 6 with (go_at_call 21;refine HBG.out.mono ?_;rintro e w5 ⟨o,t0,C0,sp0,P0,rfl,hws,hon,hs0,hcf⟩;have HWS:=hJ hws;have HON:=hJ hon;have HS0:=hJ hs0;have HCF:=hJ hcf;clear hws hon hs0 hcf)
 have hwc:Below W.heap.size W wc:=HWA.out.trans (HB4.out.mono HWA.out.size)
 have HWC:=hJ hwc
 have HIN0:=hJ (HIN.out wc hwc)
 have HP0:=hJ (HP.out wc hwc)
 have HCC:Hid (∀V,Below wc.heap.size wc V→_):=hJ fun V hV=>HC.out V (HB4.out.trans (hV.mono HB4.out.size))
 have HRG0:=hJ (HRG.out.up hwc)
 have HSG0:=hJ (HSG.out.up hwc)
 have HLW:=hJ (lt_of_cell c4)
 clear hwc c0 c1 c2 c3 c4 c5 c6 c7 c8 HBG HC HIN HP HRG HSG HB4 HWA
 go_wp2_with fail
 go_loopw [10] (fun i wr=>∃(j:Nat) (t:PSt ShS) (C:Cu) (sp:List (Option Spc)) (P:List (Option MPr)),j≤n∧i=.int .i64 (j:Nat)∧WS wc wr o t C (1990000-8257*j-2*sumR ((L.take j).map Ac16.op)) (sumR ((L.take j).map Ac16.op)) sp P∧∃s,sp[0]? =some (some s)) (fun i _=>n-(intOf i).toNat)
 case atStart=>exact ⟨0,t0,C0,sp0,P0,by omega,rfl,HWS.out,HS0.out⟩
 case round=>
  obtain ⟨j,t,C,sp,P,hj,rfl,hw,h0⟩:=hrel
  have HW:=hJ hw
  have H00:=hJ h0
  clear h0
  have hsl:sumR ((L.take j).map Ac16.op)≤16384:=by
   have:=sumR_le (L:=L.map Ac16.op) j
   rw [List.map_take]
   have:=HFEW.out.2.1
   omega
  have HSL:=hJ hsl
  have hn100:n≤100:=by have:=HFEW.out.1;have:=HLN.out;omega
  by_cases hjn:j<n
  · obtain ⟨x,hx⟩:∃x,L[j]? =some x:=⟨_,jE (by have:=HLN.out;omega)⟩
    obtain ⟨ga,oa,rfl,hga,hca⟩:=(HP0.out.up hw.b.bel).at_ (by have:=HLN.out;omega)
    have k0:wr.cell? ⟨ga,oa+j*7,none⟩=some (.int .i64 x.a):=hca j x hx 0 _ rfl
    have k1:wr.cell? ⟨ga,oa+j*7+1,none⟩=some (.int .i64 x.kind):=hca j x hx 1 _ rfl
    have k2:wr.cell? ⟨ga,oa+j*7+2,none⟩=some (.int .i64 x.pid):=hca j x hx 2 _ rfl
    have k3:wr.cell? ⟨ga,oa+j*7+3,none⟩=some (.int .i64 x.at_):=hca j x hx 3 _ rfl
    have k4:wr.cell? ⟨ga,oa+j*7+4,none⟩=some (.int .i64 x.n):=hca j x hx 4 _ rfl
    have k5:wr.cell? ⟨ga,oa+j*7+5,none⟩=some (.int .i64 x.prot):=hca j x hx 5 _ rfl
    have k6:wr.cell? ⟨ga,oa+j*7+6,none⟩=some (.slice x.A x.m x.c):=hca j x hx 6 _ rfl
    have hjI:(j:Int)<(n:Int):=by omega
    have hsm:sumR ((L.take (j+1)).map Ac16.op)=sumR ((L.take j).map Ac16.op)+x.m:=by
     have:=sumR_take (L:=L.map Ac16.op) (j:=j) (x:=x.op) (by rw [List.getElem?_map,hx];rfl)
     rw [List.map_take,List.map_take]
     exact this
    have hsl2:sumR ((L.take (j+1)).map Ac16.op)≤16384:=by
     have:=sumR_le (L:=L.map Ac16.op) (j+1)
     rw [List.map_take]
     have:=HFEW.out.2.1
     omega
    have hmem:=jG hx
    have HST:=hJ (step16_any (kk:=1990000-8257*(j+1)-2*sumR ((L.take (j+1)).map Ac16.op)) x (HIN0.out x hmem) (HFEW.out.2.2 x hmem) (by omega) (hw.less (by have:=HON.out;omega) jN))
    have HSM2:=hJ (And.intro hsm hsl2)
    clear hca hx hsm hsl2 hmem hw hsl
    go_upto_region 11 with (fail)
    go_wp2_with (first|(go_at_call 22;refine HST.out.mono ?_;rintro e w6 ⟨rfl,t6,C6,sp6,P6,h6,h0⟩;have H6:=hJ h6;have H60:=hJ (h0 H00.out);clear h6 h0))
    go_roundw
    case rel=>exact ⟨j+1,t6,C6,sp6,P6,by omega,by go_num,by rw [HSM2.out.1];rw [HSM2.out.1] at H6;exact H6.out,H60.out⟩
    case measure=>simp [intOf];omega
  · obtain rfl:j=n:=by omega
    have hj2:¬(j:Int)<(j:Int):=by omega
    obtain ⟨s,hs0⟩:=H00.out
    obtain ⟨U,hU⟩:∃U,sumR ((L.take j).map Ac16.op)=U:=⟨_,rfl⟩
    rw [hU] at hw hsl
    have hw':=hw.less (kk':=200) (by omega) (Nat.le_refl U)
    have hU2:U≤16384:=hsl
    obtain ⟨p,hp,hr,hd⟩:=hw'.r.at_ hs0
    have hsn:s.n≤16384:=by have:=hw'.qn hs0;omega
    have hll:(lS (sp.set 0 none)).length<900:=by
     have h1:=List.length_filterMap_le id (sp.set 0 none)
     rw [List.length_set] at h1
     have h2:=hw'.len
     have h3:=hw'.dn
     unfold lS
     omega
    obtain ⟨l,hl⟩:∃l,lS (sp.set 0 none)=l:=⟨_,rfl⟩
    have hh:=hw'.head hs0
    rw [hl] at hh hll
    have HH:=hJ hh
    have hcf2:s.D.cf=cf:=by rw [←HCF.out];exact hd.1
    have HQX:=hJ (qS_at hs0)
    have hrr:=hr.rg
    have hss:=hh.lw.sw.ss s jM
    have HRB:=hJ (fun (V:World) (hV:Below wr.heap.size wr V)=>regions_b (hss.sp.up hV) hss.len)
    have HSLT:=hJ (fun (V:World) (hV:Below wr.heap.size wr V)=>slots_b (hss.sp.up hV) (by omega))
    have HOF:=hJ (fun (V:World) (hV:Below wr.heap.size wr V) (AL:Option Addr) (cL:Nat)=>WB.of (AL:=AL) (cL:=cL) (hh.up hV) hrr (by omega) hll)
    rw [hcf2] at HOF
    unfold cfgV at HOF
    have HSN:=hJ hsn
    have HLEN:=hJ hss.len
    have HSS:=hJ hss
    have HCF2:=hJ hcf2
    have HOK:=hJ (HSS.out.ok)
    have HSP:=hJ hd
    obtain ⟨c0,c1,c2,c3,c4,c5,c6,c7,c8⟩:=HCC.out _ hh.bel
    have c9:=hh.c9
    have c11:=hh.c11
    have lW:=hh.ltW
    obtain ⟨g,hg,lg,hcg,fg⟩:=hh.rAt
    have r0:=hcg 0 _ (qS_at hs0)
    unfold WD.rv at c11
    rw [hg] at c11
    simp only [Option.map_some] at r0
    have hD0:(0:Int)<(o.D.n:Int):=by have:=hw'.dn;omega
    have hD1:0<o.D.n:=by omega
    have hD2:(0:Int)≤(o.D.n:Int):=by omega
    have hD3:o.D.n≠0:=by omega
    have HGG:=hJ hg
    have HWCB:=hJ hh.bel
    clear hw hw' hs0 hU hsl hp hr hd hll hl hh hcg fg hg hss hrr hcf2
    go_upto_region 14 with (go_at_call 19;refine (HSLT.out _ jB).mono ?_;rintro e w7 ⟨A7,q7,sl,hsl,rfl,hf7⟩;have HF7:=hJ hf7;have HSO:=hJ hsl;clear hf7 hsl)
    have hb7:=HF7.out.2
    have HH7:=hJ (HH.out.up hb7)
    have d0:=(hb7.cell (p:=⟨W.heap.size,0,none⟩) (lt_of_cell c0)).trans c0
    have d1:=(hb7.cell (p:=⟨W.heap.size,1,none⟩) (lt_of_cell c1)).trans c1
    have d2:=(hb7.cell (p:=⟨W.heap.size,2,none⟩) (lt_of_cell c2)).trans c2
    have d3:=(hb7.cell (p:=⟨W.heap.size,3,none⟩) (lt_of_cell c3)).trans c3
    have d4:=(hb7.cell (p:=⟨W.heap.size,4,none⟩) (lt_of_cell c4)).trans c4
    have d5:=(hb7.cell (p:=⟨W.heap.size,5,none⟩) (lt_of_cell c5)).trans c5
    have d6:=(hb7.cell (p:=⟨W.heap.size,6,none⟩) (lt_of_cell c6)).trans c6
    have d7:=(hb7.cell (p:=⟨W.heap.size,7,none⟩) (lt_of_cell c7)).trans c7
    have d8:=(hb7.cell (p:=⟨W.heap.size,8,none⟩) (lt_of_cell c8)).trans c8
    have d9:=(hb7.cell (p:=⟨o.W,9,none⟩) lW).trans c9
    have d11:=(hb7.cell (p:=⟨o.W,11,none⟩) lW).trans c11
    have s0:=(hb7.cell (p:=⟨g,0,none⟩) lg).trans r0
    have ld:=lt_of_cell d0
    have l9:=lt_of_cell d9
    have lg7:=lt_of_cell s0
    have HHW:=hJ HH7.out.bel
    clear c0 c1 c2 c3 c4 c5 c6 c7 c8 c9 c11 r0 lW lg hb7
    have HS:Hid (∀V,Below w7.heap.size w7 V→(V.cell? ⟨W.heap.size,0,none⟩=some (.int .i64 (cf 0))∧V.cell? ⟨W.heap.size,1,none⟩=some (.int .i64 (cf 1))∧V.cell? ⟨W.heap.size,2,none⟩=some (.int .i64 (cf 2))∧V.cell? ⟨W.heap.size,3,none⟩=some (.int .i64 (cf 3))∧V.cell? ⟨W.heap.size,4,none⟩=some (.int .i64 (cf 4))∧V.cell? ⟨W.heap.size,5,none⟩=some (.int .i64 (cf 5))∧V.cell? ⟨W.heap.size,6,none⟩=some (.int .i64 (cf 6))∧V.cell? ⟨W.heap.size,7,none⟩=some (.int .i64 (cf 7))∧V.cell? ⟨W.heap.size,8,none⟩=some (.int .i64 (cf 8))∧V.cell? ⟨o.W,9,none⟩=some (.pointer (some ⟨o.d.Q,0,none⟩))∧V.cell? ⟨o.W,11,none⟩=some (.slice (some ⟨g,0,none⟩) o.D.n o.cap)∧V.cell? ⟨g,0,none⟩=some (.pointer (some ⟨s.D.X,0,none⟩)))):=hJ fun V hV=>
     ⟨(hV.cell (p:=⟨W.heap.size,0,none⟩) ld).trans d0,(hV.cell (p:=⟨W.heap.size,1,none⟩) ld).trans d1,(hV.cell (p:=⟨W.heap.size,2,none⟩) ld).trans d2,(hV.cell (p:=⟨W.heap.size,3,none⟩) ld).trans d3,(hV.cell (p:=⟨W.heap.size,4,none⟩) ld).trans d4,(hV.cell (p:=⟨W.heap.size,5,none⟩) ld).trans d5,(hV.cell (p:=⟨W.heap.size,6,none⟩) ld).trans d6,(hV.cell (p:=⟨W.heap.size,7,none⟩) ld).trans d7,(hV.cell (p:=⟨W.heap.size,8,none⟩) ld).trans d8,(hV.cell (p:=⟨o.W,9,none⟩) l9).trans d9,(hV.cell (p:=⟨o.W,11,none⟩) l9).trans d11,(hV.cell (p:=⟨g,0,none⟩) lg7).trans s0⟩
    have HNB:Hid (W.heap.size<wc.heap.size∧¬swO o.d t (s::l) o.W∧¬swO o.d t (s::l) g∧(∀q,swO o.d t (s::l) q→wc.heap.size≤q)):=hJ ⟨HLW.out,HH.out.s2 o.W (.inl rfl),HH.out.s2 g (.inr (by unfold WD.rv;rw [HGG.out];rfl)),HH.out.lw.own⟩
    have HS2:Hid (∀V V',Below w7.heap.size w7 V→Off (swO o.d t (s::l)) V V'→(V'.cell? ⟨W.heap.size,0,none⟩=some (.int .i64 (cf 0))∧V'.cell? ⟨W.heap.size,1,none⟩=some (.int .i64 (cf 1))∧V'.cell? ⟨W.heap.size,2,none⟩=some (.int .i64 (cf 2))∧V'.cell? ⟨W.heap.size,3,none⟩=some (.int .i64 (cf 3))∧V'.cell? ⟨W.heap.size,4,none⟩=some (.int .i64 (cf 4))∧V'.cell? ⟨W.heap.size,5,none⟩=some (.int .i64 (cf 5))∧V'.cell? ⟨W.heap.size,6,none⟩=some (.int .i64 (cf 6))∧V'.cell? ⟨W.heap.size,7,none⟩=some (.int .i64 (cf 7))∧V'.cell? ⟨W.heap.size,8,none⟩=some (.int .i64 (cf 8))∧V'.cell? ⟨o.W,9,none⟩=some (.pointer (some ⟨o.d.Q,0,none⟩))∧V'.cell? ⟨o.W,11,none⟩=some (.slice (some ⟨g,0,none⟩) o.D.n o.cap)∧V'.cell? ⟨g,0,none⟩=some (.pointer (some ⟨s.D.X,0,none⟩)))):=hJ fun V V' hV ho=>by
     obtain ⟨n1,n2,n3,n4⟩:=HNB.out
     have hz:=hV.size
     have lwV:W.heap.size<V.heap.size:=by omega
     have nw:¬swO o.d t (s::l) W.heap.size:=fun e=>by have:=n4 _ e;omega
     obtain ⟨a0,a1,a2,a3,a4,a5,a6,a7,a8,a9,a11,ag⟩:=HS.out V hV
     exact ⟨(ho.cell (p:=⟨W.heap.size,0,none⟩) lwV nw).trans a0,(ho.cell (p:=⟨W.heap.size,1,none⟩) lwV nw).trans a1,(ho.cell (p:=⟨W.heap.size,2,none⟩) lwV nw).trans a2,(ho.cell (p:=⟨W.heap.size,3,none⟩) lwV nw).trans a3,(ho.cell (p:=⟨W.heap.size,4,none⟩) lwV nw).trans a4,(ho.cell (p:=⟨W.heap.size,5,none⟩) lwV nw).trans a5,(ho.cell (p:=⟨W.heap.size,6,none⟩) lwV nw).trans a6,(ho.cell (p:=⟨W.heap.size,7,none⟩) lwV nw).trans a7,(ho.cell (p:=⟨W.heap.size,8,none⟩) lwV nw).trans a8,(ho.cell (p:=⟨o.W,9,none⟩) (lt_of_cell a9) n2).trans a9,(ho.cell (p:=⟨o.W,11,none⟩) (lt_of_cell a9) n2).trans a11,(ho.cell (p:=⟨g,0,none⟩) (lt_of_cell ag) n3).trans ag⟩
    have KS:=hJ (HS.out _ jB)
    have HRB7:Hid (∀V,Below w7.heap.size w7 V→Calls Tryz.prog 24 #[.pointer (some ⟨s.D.X,0,none⟩)] V fun e w'=>∃A' c',e=.returned (.slice A' s.L.length c')∧FrG w7 w' (.slice A' s.L.length c') s.L):=hJ fun V hV=>
     (HRB.out V (HF7.out.2.trans (hV.mono HF7.out.2.size))).mono fun e w' ⟨A',c',he,hf⟩=>⟨A',c',he,hf.1.mono hV.size,hV.trans (hf.2.mono hV.size)⟩
    have HOFX:Hid (∀w8 A8 q8,FrG w7 w8 (.slice A8 s.L.length q8) s.L→Calls Tryz.prog 23 #[.agg #[.int .i64 (cf 0),.int .i64 (cf 1),.int .i64 (cf 2),.int .i64 (cf 3),.int .i64 (cf 4),.int .i64 (cf 5),.int .i64 (cf 6),.int .i64 (cf 7),.int .i64 (cf 8)],.pointer (some ⟨o.d.Q,0,none⟩),.slice A8 s.L.length q8,.slice A7 s.n q7] w8 fun e w9=>OfW wc w8 o t C 200 s l P (qS sp) e w9∧Below w7.heap.size w7 w8):=hJ fun w8 A8 q8 hf=>
     (HOF.out w8 (HF7.out.2.trans (hf.2.mono HF7.out.2.size)) A8 q8 hf.1.rg (fun q hq e=>by
      have h1:=(hf.1.lt (hf.1.own hq)).1
      have h2:=HH.out.lt (.inl (.inl e))
      have h3:=HF7.out.2.size
      omega) (cB:=q7) HSO.out (HF7.out.1.rg.up hf.2) (fun q hq e=>by
      have h1:=(HF7.out.1.lt (HF7.out.1.own hq)).1
      have h2:=HH.out.lt (.inl (.inl e))
      omega)).mono fun e w9 h=>⟨h,hf.2⟩
    clear HOF HRB HSLT
    go_region_held3 (fun V=>V.cell? ⟨W.heap.size,0,none⟩=some (.int .i64 (cf 0))∧V.cell? ⟨W.heap.size,1,none⟩=some (.int .i64 (cf 1))∧V.cell? ⟨W.heap.size,2,none⟩=some (.int .i64 (cf 2))∧V.cell? ⟨W.heap.size,3,none⟩=some (.int .i64 (cf 3))∧V.cell? ⟨W.heap.size,4,none⟩=some (.int .i64 (cf 4))∧V.cell? ⟨W.heap.size,5,none⟩=some (.int .i64 (cf 5))∧V.cell? ⟨W.heap.size,6,none⟩=some (.int .i64 (cf 6))∧V.cell? ⟨W.heap.size,7,none⟩=some (.int .i64 (cf 7))∧V.cell? ⟨W.heap.size,8,none⟩=some (.int .i64 (cf 8))∧V.cell? ⟨o.W,9,none⟩=some (.pointer (some ⟨o.d.Q,0,none⟩))∧V.cell? ⟨o.W,11,none⟩=some (.slice (some ⟨g,0,none⟩) o.D.n o.cap)∧V.cell? ⟨g,0,none⟩=some (.pointer (some ⟨s.D.X,0,none⟩)))
     (first|exact KS.out|exact HS.out _ (jB.drew)|go_keep)
     (first
      |(go_at_call 24;(with_reducible refine (HRB7.out _ (by first|exact jB.drew|exact Below.refl _ _)).mono ?_);rintro e w8 ⟨A8,q8,rfl,hf8⟩;have HF8:=hJ hf8;have KS:=hJ (HS.out _ hf8.2);clear hf8)
      |(go_at_call 23;(with_reducible refine (HOFX.out w8 A8 q8 HF8.out).mono ?_);rintro e w9 ⟨⟨X9,M9,A9,cap9,t9,rfl,h9,ho9⟩,hb8⟩;have H9:=hJ h9;have KS:=hJ (HS2.out _ _ hb8 ho9);have HO9:=hJ ho9;clear h9 ho9 hb8))
    clear d0 d1 d2 d3 d4 d5 d6 d7 d8 d9 d11 s0 ld l9 lg7
    obtain ⟨k0,k1,k2,k3,k4,k5,k6,k7,k8,k9,k11,kg⟩:=KS.out
    have lk:=lt_of_cell k0
    have lW9:=lt_of_cell k9
    have lg9:=lt_of_cell kg
    have hsp9:SpAt w9 ⟨X9,M9,o.d.Q,s.D.cf,s.D.pg,s.D.rg,s.D.ps⟩ A9 cap9 s.L s.m s.n:=(H9.out.lw.sw.ss (Spc.mk ⟨X9,M9,o.d.Q,s.D.cf,s.D.pg,s.D.rg,s.D.ps⟩ A9 cap9 s.L s.m s.n) jM).sp
    have HSP9:=hJ hsp9
    have HSP8:=hJ (H9.out.lw.sw.ss s (jP jM)).sp
    have hsn9:s.n≤1000000:=by have:=HSN.out;omega
    have HSN9:=hJ hsn9
    clear hsp9 hsn9
    have HWT1:Hid (∀gg:Up w9,Calls Tryz.prog 25 #[.pointer (some ⟨X9,0,none⟩)] gg.world fun e w'=>e=.returned (.int .i64 ((s.L.length+s.n:Nat):Int))∧Below gg.world.heap.size gg.world w'):=hJ fun gg=>by have h:=weight_b (HSP9.out.up gg.h) HLEN.out HSN9.out;exact h
    have HWT2:Hid (∀gg:Up w9,Calls Tryz.prog 25 #[.pointer (some ⟨s.D.X,0,none⟩)] gg.world fun e w'=>e=.returned (.int .i64 ((s.L.length+s.n:Nat):Int))∧Below gg.world.heap.size gg.world w'):=hJ fun gg=>by have h:=weight_b (HSP8.out.up gg.h) HLEN.out HSN9.out;exact h
    obtain ⟨wt,hwt⟩:∃wt,((s.L.length+s.n:Nat):Int)=wt:=⟨_,rfl⟩
    rw [hwt] at HWT1 HWT2
    have HHS2:=hJ HS2
    clear hwt KS HS HS2 HHS2 HRB7 HOFX
    go_upto_region 15 with (fail)
    refine wp_region_up (by kernel_rfl) (by kernel_rfl) ?_
    repeat (go_big_quiet_step (first|(go_at_call 25;first|(with_reducible exact Calls.up_of (HWT1.out _))|(with_reducible exact Calls.up_of (HWT2.out _)))))
    refine wpQuiet_nil ?_
    rintro _ ⟨g15,rfl⟩
    have H15:=hJ (H9.out.up g15.h)
    have HB15:=hJ g15.h
    generalize g15.world=w15 at *
    clear HWT1 HWT2 k0 k1 k2 k3 k4 k5 k6 k7 k8 k9 k11 kg lk lW9 lg9
    have HSL9:Hid (Calls Tryz.prog 19 #[.pointer (some ⟨X9,0,none⟩)] w15 (SlPost w15 s.m s.n)):=hJ (by have h:=slots_b (HSP9.out.up HB15.out) (show s.n≤100000 by have:=HSN.out;omega);exact h)
    go_upto_region 18 with (go_at_call 19;refine HSL9.out.mono ?_;rintro e w17 ⟨A17,q17,sl2,hsl2,rfl,hf17⟩;have HF17:=hJ hf17;have HSO2:=hJ hsl2;clear hf17 hsl2)
    obtain rfl:sl2=sl:=SlOf.uniq HSO2.out HSO.out
    have H17:=hJ (H15.out.up HF17.out.2)
    have HA1:Hid (EAt slE w17 A7 sl2):=hJ ((((HF7.out.1.rg.up HF8.out.2).off HO9.out (fun b e1 e2=>by
     have h1:=(HF7.out.1.lt (HF7.out.1.own e2)).1
     have h2:=HH.out.lw.sw.lt e1
     omega)).up HB15.out).up HF17.out.2)
    have HA2:=hJ HF17.out.1.rg
    have HSLN:=hJ HSO.out.len
    clear HSL9 HSO2 HB15 HF8 HO9 H15
    go_wp2_with fail
    go_loopw [15] (fun i wq=>∃q:Nat,q≤s.n∧i=.int .i64 (q:Nat)∧Below w17.heap.size w17 wq) (fun i _=>s.n-(intOf i).toNat)
    case atStart=>exact ⟨0,by omega,rfl,Below.refl _ _⟩
    case round=>
     obtain ⟨q,hq,rfl,hbq⟩:=hrel
     have HBQ:=hJ hbq
     by_cases hqn:q<s.n
     · have hqI:(q:Int)<(s.n:Int):=by omega
       obtain ⟨⟨y,id⟩,hx⟩:∃x,sl2[q]? =some x:=⟨_,jE (by have:=HSLN.out;omega)⟩
       obtain ⟨ga,oa,hA7,hga,hca⟩:=(HA1.out.up hbq).at_ (by have:=HSLN.out;omega)
       obtain ⟨gb,ob,hA17,hgb,hcb⟩:=(HA2.out.up hbq).at_ (by have:=HSLN.out;omega)
       have k0:wr.cell? ⟨ga,oa+q*2,none⟩=some (.int .i64 y):=hca q (y,id) hx 0 _ rfl
       have k1:wr.cell? ⟨ga,oa+q*2+1,none⟩=some (.int .i64 id):=hca q (y,id) hx 1 _ rfl
       have j0:wr.cell? ⟨gb,ob+q*2,none⟩=some (.int .i64 y):=hcb q (y,id) hx 0 _ rfl
       have j1:wr.cell? ⟨gb,ob+q*2+1,none⟩=some (.int .i64 id):=hcb q (y,id) hx 1 _ rfl
       have heq:∀w,(Op.equalIn 10000 59 (.agg #[.int .i64 y,.int .i64 id]) (.agg #[.int .i64 y,.int .i64 id])).run Tryz.prog w=.ok true w:=fun w=>by
        rw [eq_sl];simp
       rw [hA7,hA17]
       clear hbq hca hcb hx hA7 hA17
       go_upto_region 21 with (fail)
       go_quiet (fail)
       go_wp2
       go_roundw
       case rel=>exact ⟨q+1,by omega,by go_num,below_drewN HBQ.out _⟩
       case measure=>simp [intOf];omega
     · obtain rfl:q=s.n:=by omega
       have hq2:¬(s.n:Int)<(s.n:Int):=by omega
       have H18:=hJ (H17.out.up hbq)
       obtain ⟨k0,k1,k2,k3,k4,k5,k6,k7,k8⟩:=HCC.out _ H18.out.bel
       have k9:=H18.out.c9
       have lk:=lt_of_cell k0
       have lW9:=lt_of_cell k9
       have hof2:=fun (V:World) (hV:Below wr.heap.size wr V)=>WB.of2 (cf:=s.D.cf) (pg:=s.D.pg) (rg:=s.D.rg) (ps:=s.D.ps) (H18.out.up hV) ⟨HOK.out.e4,HOK.out.e7,HOK.out.e8,HOK.out.b4,HOK.out.b7,HOK.out.b8⟩ HSS.out.z cR cS (HRG0.out.up (H18.out.up hV).bel) (by have:=HLR.out;omega) (HSG0.out.up (H18.out.up hV).bel) (by have:=HLS.out;omega) HID.out (fun q hq=>HRG0.out.lt hq) (fun q hq=>HSG0.out.lt hq)
       obtain ⟨C1,hC1⟩:∃C1,kpC C s.m=C1:=⟨_,rfl⟩
       obtain ⟨z,hz⟩:∃z,(shapedB s.D.ps s.D.rg LR LS && !(LS.any fun x=>(C1 x.2).isNone))=z:=⟨_,rfl⟩
       rw [HCF2.out,hC1,hz,HLR.out,HLS.out] at hof2
       unfold cfgV at hof2
       have HOF2:=hJ hof2
       have HZ:=hJ hz
       clear hq hqn hbq hof2 hC1 hz
       go_upto_region 23 with (fail)
       refine wp_region_up_tail 7 (by kernel_rfl) (by kernel_rfl) (by kernel_rfl) ?_
       simp only [List.take_succ_cons,List.take_zero,List.drop_succ_cons,List.drop_zero]
       repeat (go_big_quiet_step (fail))
       refine wpQuiet_nil ?_
       rintro _ ⟨g23,rfl⟩
       have HB23:=hJ g23.h
       generalize g23.world=w23 at *
       clear k0 k1 k2 k3 k4 k5 k6 k7 k8 k9 lk lW9
       go_upto_region 24 with (go_at_call 23;refine (HOF2.out _ HB23.out).mono ?_;rintro e w24 ⟨t24,T,rfl,h24,hTz,hTx⟩;have H24:=hJ h24;have HT:=hJ (And.intro hTz hTx);clear h24 hTz hTx)
       obtain ⟨e7,e8⟩:cf 7=(s.D.rg:Nat)∧cf 8=(s.D.ps:Nat):=by rw [←HCF2.out];exact ⟨HOK.out.e7,HOK.out.e8⟩
       have hrr:=fun (V:World) (hV:Below w24.heap.size w24 V)=>rightRg_any V cR (HRG0.out.up (H24.out.up hV).bel) (by have:=HLR.out;omega) e7 e8
       obtain ⟨RR,hRR⟩:∃RR,(rightL s.D.ps LR && decide (LR.length≤s.D.rg))=RR:=⟨_,rfl⟩
       rw [hRR,HLR.out] at hrr
       unfold cfgV at hrr
       have HRR:=hJ (hrr w24 jB)
       have HGO:Hid (goodG C1 RR LR LS nS=z):=hJ (by rw [←hRR,←HLS.out,goodG_all];exact HZ.out)
       obtain ⟨k0,k1,k2,k3,k4,k5,k6,k7,k8⟩:=HCC.out _ H24.out.bel
       have lk:=lt_of_cell k0
       obtain ⟨pv,hpv⟩:∃pv:Value,.pointer (T.map fun s=>⟨s.D.X,0,none⟩)=pv:=⟨_,rfl⟩
       obtain ⟨ev,hev⟩:∃ev:Int,(if z=true then 0 else 22)=ev:=⟨_,rfl⟩
       rw [hpv,hev]
       have HPV:=hJ (And.intro hpv hev)
       clear hrr hRR hpv hev e7 e8
       go_upto_region 25 with (go_at_call 26;refine HRR.out.mono ?_;rintro e w25 ⟨rfl,hb25⟩;have H25:=hJ (H24.out.up hb25);clear hb25)
       clear k0 k1 k2 k3 k4 k5 k6 k7 k8 lk
       go_wp2_with fail
       go_loopw [17,18,19,20,21,22,23] (fun gv lv i _ _ _ _ wq=>∃(q:Nat) (t':PSt ShS),q≤nS∧i=.int .i64 (q:Nat)∧gv=.bool (goodG C1 RR LR LS q)∧lv=.int .i64 (lastG LS q)∧OfR wc wq o t' C1 (200-q) T) (fun _ _ i _ _ _ _ _=>nS-(intOf i).toNat)
       case atStart=>exact ⟨0,t24,by omega,rfl,by rw [goodG_zero],rfl,H25.out⟩
       case round=>
        obtain ⟨q,t1,hq,rfl,rfl,rfl,hof⟩:=hrel
        have HOF:=hJ hof
        by_cases hqn:q<nS
        · have hqI:(q:Int)<(nS:Int):=by omega
          obtain ⟨⟨pg,id⟩,hx⟩:∃x,LS[q]? =some x:=⟨_,jE (by have:=HLS.out;omega)⟩
          have hidr:=HID.out _ (jG hx)
          have hgs:=goodG_succ (C:=C1) (R:=RR) (L:=LR) hx
          have hls:=lastG_succ hx
          have HSX:=hJ (And.intro hgs hls)
          obtain ⟨ga,oa,hAS,hga,hca⟩:=HSG0.out.at_ (by have:=HLS.out;omega)
          have HCA:Hid (∀V,Below wc.heap.size wc V→V.cell? ⟨ga,oa+q*2,none⟩=some (.int .i64 pg)∧V.cell? ⟨ga,oa+q*2+1,none⟩=some (.int .i64 id)):=hJ fun V hV=>⟨(hV.cell (p:=⟨ga,oa+q*2,none⟩) hga).trans (hca q (pg,id) hx 0 _ rfl),(hV.cell (p:=⟨ga,oa+q*2+1,none⟩) hga).trans (hca q (pg,id) hx 1 _ rfl)⟩
          have HIDR:=hJ hidr.2
          simp only at hgs hls
          obtain ⟨G0,hG0⟩:∃G0,goodG C1 RR LR LS q=G0:=⟨_,rfl⟩
          obtain ⟨L0,hL0⟩:∃L0,lastG LS q=L0:=⟨_,rfl⟩
          rw [hG0,hL0] at hgs
          have HSX:=hJ (And.intro hgs hls)
          rw [hG0,hL0,hAS]
          obtain ⟨wo,hwo⟩:∃wo,wo=wr:=⟨_,rfl⟩
          subst hwo
          clear hof hca hx hidr hgs hls hAS hG0 hL0 hga
          go_wp2_with fail
          go_loopw [20,21] (fun iv kv wk=>∃r:Nat,r≤nR∧kv=.int .i64 (r:Nat)∧iv=.bool (findB (LR.take r) pg)∧Below wo.heap.size wo wk) (fun _ kv _=>nR-(intOf kv).toNat)
          case atStart=>exact ⟨0,by omega,rfl,rfl,Below.refl _ _⟩
          case round=>
           obtain ⟨r,hr,rfl,rfl,hbk⟩:=hrel
           have HBK:=hJ hbk
           have HOK2:=hJ (HOF.out.up hbk)
           obtain ⟨k0,k1⟩:=HCA.out _ HOK2.out.bel
           have lk:=lt_of_cell k0
           by_cases hrn:r<nR
           · have hrI:(r:Int)<(nR:Int):=by omega
             obtain ⟨y,hy⟩:∃y,LR[r]? =some y:=⟨_,jE (by have:=HLR.out;omega)⟩
             have hsn:=any_snoc (x:=pg) hy
             obtain ⟨gr,og,hAR,hgr,hcr⟩:=(HRG0.out.up HOK2.out.bel).at_ (by have:=HLR.out;omega)
             obtain ⟨y0,y1,_⟩:=hcr r y hy
             obtain ⟨lo,hi,pr⟩:=y
             simp only at y0 y1 hsn
             rw [hAR]
             obtain ⟨b0,hb0⟩:∃b0,findB (LR.take r) pg=b0:=⟨_,rfl⟩
             rw [hb0] at hsn
             rw [hb0]
             have HSN1:=hJ hsn
             clear hcr hy hAR hsn hb0 hbk
             cases b0 with
             | true=>
               go_upto_region 33 with (fail)
               go_quiet (fail)
               go_wp2
               go_roundw
               case rel=>exact ⟨r+1,by omega,by go_num,by rw [HSN1.out];rfl,below_drewN HBK.out _⟩
               case measure=>simp [intOf];omega
             | false=>
               by_cases d1:lo≤pg
               · by_cases d2:pg<hi
                 · have hd1:decide (lo≤pg)=true:=decide_eq_true d1
                   have hd2:decide (pg<hi)=true:=decide_eq_true d2
                   have HV:Hid (decide (lo≤pg∧pg<hi)=true):=hJ (decide_eq_true ⟨d1,d2⟩)
                   clear d1 d2
                   go_upto_region 33 with (fail)
                   go_quiet (fail)
                   go_wp2
                   go_roundw
                   case rel=>exact ⟨r+1,by omega,by go_num,by rw [HSN1.out,HV.out];rfl,below_drewN HBK.out _⟩
                   case measure=>simp [intOf];omega
                 · have hd1:decide (lo≤pg)=true:=decide_eq_true d1
                   have hd2:decide (pg<hi)=false:=decide_eq_false d2
                   have HV:Hid (decide (lo≤pg∧pg<hi)=false):=hJ (decide_eq_false fun h=>d2 h.2)
                   clear d1 d2
                   go_upto_region 33 with (fail)
                   go_quiet (fail)
                   go_wp2
                   go_roundw
                   case rel=>exact ⟨r+1,by omega,by go_num,by rw [HSN1.out,HV.out];rfl,below_drewN HBK.out _⟩
                   case measure=>simp [intOf];omega
               · have hd1:decide (lo≤pg)=false:=decide_eq_false d1
                 have HV:Hid (decide (lo≤pg∧pg<hi)=false):=hJ (decide_eq_false fun h=>d1 h.1)
                 clear d1
                 go_upto_region 33 with (fail)
                 go_quiet (fail)
                 go_wp2
                 go_roundw
                 case rel=>exact ⟨r+1,by omega,by go_num,by rw [HSN1.out,HV.out];rfl,below_drewN HBK.out _⟩
                 case measure=>simp [intOf];omega
           · obtain rfl:r=nR:=by omega
             have hr2:¬(r:Int)<(r:Int):=by omega
             have htk:LR.take r=LR:=by rw [←HLR.out,List.take_length]
             rw [htk]
             obtain ⟨b0,hb0⟩:∃b0,findB LR pg=b0:=⟨_,rfl⟩
             obtain ⟨f0,hf0⟩:∃f0,(C1 id).isSome=f0:=⟨_,rfl⟩
             have hgs:=HSX.out.1
             have HLS2:=hJ HSX.out.2
             rw [hb0,hf0] at hgs
             rw [hb0]
             have HGS:=hJ hgs
             have hrd:=fun (V:World) (hV:Below wr.heap.size wr V)=>OfR.read (k:=200-(q+1)) ((HOK2.out.up hV).less (by omega)) HIDR.out
             rw [hf0] at hrd
             have HRD:=hJ hrd
             have c9:=HOK2.out.c9
             have lW:=lt_of_cell c9
             clear hr hrn htk hgs hb0 hf0 hbk HSX hrd
             go_upto_region 34 with (fail)
             refine wp_region_up_tail 9 (by kernel_rfl) (by kernel_rfl) (by kernel_rfl) ?_
             simp only [List.take_succ_cons,List.take_zero,List.drop_succ_cons,List.drop_zero]
             repeat (go_big_quiet_step (fail))
             refine wpQuiet_nil ?_
             rintro _ ⟨g34,rfl⟩
             have HB34:=hJ g34.h
             generalize g34.world=w34 at *
             clear c9 lW k0 k1 lk
             go_upto_region 35 with (go_at_call 27;refine (HRD.out _ HB34.out).mono ?_;rintro e w35 ⟨v35,t35,rfl,h35⟩;have H35:=hJ h35;clear h35)
             obtain ⟨k0,k1⟩:=HCA.out _ H35.out.bel
             have lk:=lt_of_cell k0
             clear HRD HB34
             obtain ⟨D0,hD0⟩:∃D0,decide (L0<pg)=D0:=⟨_,rfl⟩
             have HGS2:=HGS.out
             rw [hD0] at HGS2
             have HGS:=hJ HGS2
             clear HGS2
             cases G0 with
             | false=>
               go_wp2
               go_roundw
               case rel=>exact ⟨q+1,t35,by omega,by go_num,by rw [HGS.out];rfl,by rw [HLS2.out],H35.out⟩
               case measure=>simp [intOf];omega
             | true=>
               cases b0 with
               | false=>
                 go_wp2
                 go_roundw
                 case rel=>exact ⟨q+1,t35,by omega,by go_num,by rw [HGS.out];rfl,by rw [HLS2.out],H35.out⟩
                 case measure=>simp [intOf];omega
               | true=>
                 cases D0 with
                 | false=>
                   go_wp2
                   go_roundw
                   case rel=>exact ⟨q+1,t35,by omega,by go_num,by rw [HGS.out];rfl,by rw [HLS2.out],H35.out⟩
                   case measure=>simp [intOf];omega
                 | true=>
                   cases f0 with
                   | false=>
                     go_wp2
                     go_roundw
                     case rel=>exact ⟨q+1,t35,by omega,by go_num,by rw [HGS.out];rfl,by rw [HLS2.out],H35.out⟩
                     case measure=>simp [intOf];omega
                   | true=>
                     go_wp2
                     go_roundw
                     case rel=>exact ⟨q+1,t35,by omega,by go_num,by rw [HGS.out];rfl,by rw [HLS2.out],H35.out⟩
                     case measure=>simp [intOf];omega
        · obtain rfl:q=nS:=by omega
          have hq2:¬(q:Int)<(q:Int):=by omega
          rw [HGO.out]
          have HBEL:Hid (∀V,Below wr.heap.size wr V→Below W.heap.size W V):=hJ fun V hV=>HWC.out.trans ((HOF.out.bel.trans (hV.mono HOF.out.bel.size)).mono HWC.out.size)
          obtain ⟨hT1,hT2⟩:=HT.out
          obtain ⟨hpv,hev⟩:=HPV.out
          have HT2:=hJ hT2
          clear hof hq hqn hT2
          cases z with
          | false=>
            cases T with
            |some x=>cases hT1
            | none=>
              clear hT1
              have hev2:ev=22:=hev.symm
              have hpv2:pv=.pointer none:=hpv.symm
              subst hev2
              subst hpv2
              clear hpv hev
              go_wp2
              go_ret
              exact ⟨rfl,HBEL.out _ jB⟩
          | true=>
            cases T with
            |none=>cases hT1
            | some x=>
              clear hT1
              have hev2:ev=0:=hev.symm
              have hpv2:pv=.pointer (some ⟨x.D.X,0,none⟩):=hpv.symm
              subst hev2
              subst hpv2
              clear hpv hev
              have HWT:Hid (∀gg:Up wr,Calls Tryz.prog 25 #[.pointer (some ⟨x.D.X,0,none⟩)] gg.world fun e w'=>e=.returned (.int .i64 ((nR+q:Nat):Int))∧Below gg.world.heap.size gg.world w'):=hJ fun gg=>by
               obtain ⟨g1,g2⟩:=HT2.out x rfl
               have h:=weight_b ((HOF.out.sp x rfl).1.up gg.h) (by omega) (by omega)
               rw [g1,g2] at h
               exact h
              obtain ⟨S0,hS0⟩:∃S0:Int,((nR+q:Nat):Int)=S0:=⟨_,rfl⟩
              have hsum:IntKind.i64.wrap ((nR:Int)+(q:Int))=S0:=by rw [IntWalk.i64_in _ (by omega)];omega
              rw [hS0] at HWT
              clear hS0
              go_wp2_with (go_at_call 25;refine (HWT.out ⟨wr,Below.refl _ _⟩).mono ?_;rintro e w40 ⟨rfl,hb40⟩;have HB40:=hJ hb40;clear hb40)
              go_ret
              exact ⟨rfl,HBEL.out _ HB40.out⟩
end Go.Proofs.YtlhfjaagkgengaaGreat
