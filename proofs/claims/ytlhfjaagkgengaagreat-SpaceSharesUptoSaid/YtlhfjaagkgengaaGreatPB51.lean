/- SpaceShares, walked. Arguments opened: bytes. -/
import Derived.Test.YtlhfjaagkgengaaGreatPB50
import Derived.Test.YtlhfjaagkgengaaGreatPA00
import Derived.Test.YtlhfjaagkgengaaGreatPA04
namespace Go.Proofs.YtlhfjaagkgengaaGreat
open Go.RowKit Go.Maps
set_option linter.unusedVariables false
set_option linter.unusedSimpArgs false
def cntY (Y:List (Int×Int)) (p q:Nat):Nat:=((Y.take q).filter fun y=>decide (y.1=((p:Nat):Int))).length
theorem cntY_step {Y:List (Int×Int)} {p q:Nat} {y:Int×Int} (h:Y[q]? =some y):cntY Y p (q+1)=cntY Y p q+if y.1=((p:Nat):Int) then 1 else 0:=by
 unfold cntY
 rw [List.take_add_one,h,List.filter_append,List.length_append]
 congr 1
 by_cases c:y.1=((p:Nat):Int)
 · rw [if_pos c];simp [c]
 · rw [if_neg c];simp [c]
theorem cntY_one {m:Pm} {n:Nat} {Y:List (Int×Int)} {p:Nat} (h:SlOf m n Y) (hp:∃y∈Y,y.1=((p:Nat):Int)):cntY Y p Y.length=1:=by
 unfold cntY
 rw [List.take_length]
 have key:∀{Y:List (Int×Int)},Y.Pairwise (fun x y=>x.1<y.1)→(Y.filter fun y=>decide (y.1=((p:Nat):Int))).length≤1:=fun {Y}=>by
  induction Y with
  |nil=>intro _;exact Nat.zero_le _
  | cons x Y ih=>
    intro hY
    obtain ⟨h1,h2⟩:=List.pairwise_cons.1 hY
    rw [List.filter_cons]
    split
    · rename_i c
      have c':=of_decide_eq_true c
      have:Y.filter (fun y=>decide (y.1=((p:Nat):Int)))=[]:=List.filter_eq_nil_iff.2 fun y hy e=>by
       have:=h1 y hy
       have:=of_decide_eq_true e
       omega
      rw [this]
      exact Nat.le_refl _
    · exact ih h2
 have h1:=key h.up
 obtain ⟨y,hy,e⟩:=hp
 have h2:0<(Y.filter fun y=>decide (y.1=((p:Nat):Int))).length:=List.length_pos_of_mem (List.mem_filter.2 ⟨hy,decide_eq_true e⟩)
 omega
theorem mem_take_step {L:List (Int×Int)} {r:Nat} {x y:Int×Int} (h:L[r]? =some x):decide (y∈L.take (r+1))=(decide (y∈L.take r)||decide (x.1=y.1∧x.2=y.2)):=by
 rw [List.take_add_one,h,Bool.eq_iff_iff]
 simp only [Option.toList_some,List.mem_append,List.mem_singleton,Bool.or_eq_true,decide_eq_true_eq]
 refine or_congr Iff.rfl ⟨fun e=>by rw [e];exact ⟨rfl,rfl⟩,fun e=>Prod.ext e.1.symm e.2.symm⟩
theorem eq_sl (a b c d:Int) (w:World):(Op.equalIn 10000 59 (.agg #[.int .i64 a,.int .i64 b]) (.agg #[.int .i64 c,.int .i64 d])).run Tryz.prog w=.ok (decide (a=c∧b=d)) w:=by
 have h:(Op.equalIn 10000 59 (.agg #[.int .i64 a,.int .i64 b]) (.agg #[.int .i64 c,.int .i64 d])).run Tryz.prog w=.ok (a==c && b==d) w:=by
  rw [run_equalIn_agg (P:=Tryz.prog) w 9999 59 _ _ (by kernel_rfl) (by kernel_rfl)]
  cases h1:a==c<;>cases h2:b==d<;>simp [go_sem,h1,h2]<;>simp_all
 have h2:(a==c && b==d)=decide (a=c∧b=d):=by
  rw [Bool.eq_iff_iff]
  simp
 rw [h,h2]
open Classical in
set_option maxRecDepth 100000 in
set_option maxHeartbeats 8000000 in
theorem shares16_any (W:World) {cf:Nat→Int} {at_:Int} {bn:Nat} {A:Option Addr} {c:Nat} {L:List Ac16} (h:EAt acE W A L) (hin:∀x∈L,x.In W) (hs:L.length≤100→sumR (L.map Ac16.op)≤1000000000) (hn:L.length≤1048576) (hb8:bn<256):
 Calls Tryz.prog 6 #[cfgV cf,.slice A L.length c,.int .i64 at_,.int .u8 (bn:Nat)] W fun e w'=>e=.returned (.bool true)∧Below W.heap.size W w':=by
 have HP:=hJ (fun (V:World) (hV:Below W.heap.size W V)=>h.up hV)
 have HIN:=hJ (fun (V:World) (hV:Below W.heap.size W V) x (hx:x∈L)=>(hin x hx).up hV)
 have HFW:=hJ (fun (V:World) (hV:Below W.heap.size W V)=>few16_any (c:=c) (h.up hV) hs hn)
 have HSM:=hJ (fun V:World=>small_any V cf)
 clear h hin
 unfold cfgV at HSM ⊢
 go_enter Tryz.func6,Tryz.ntmps6
 have HC:Hid (∀V,Below (W.alloc (.cells #[.int .i64 (cf 0),.int .i64 (cf 1),.int .i64 (cf 2),.int .i64 (cf 3),.int .i64 (cf 4),.int .i64 (cf 5),.int .i64 (cf 6),.int .i64 (cf 7),.int .i64 (cf 8)] 23)).heap.size (W.alloc (.cells #[.int .i64 (cf 0),.int .i64 (cf 1),.int .i64 (cf 2),.int .i64 (cf 3),.int .i64 (cf 4),.int .i64 (cf 5),.int .i64 (cf 6),.int .i64 (cf 7),.int .i64 (cf 8)] 23)) V→_):=hJ fun V hb=>cfg_cells hb
 go_wp2_with fail
 have hwa:Below W.heap.size W (W.alloc (.cells #[.int .i64 (cf 0),.int .i64 (cf 1),.int .i64 (cf 2),.int .i64 (cf 3),.int .i64 (cf 4),.int .i64 (cf 5),.int .i64 (cf 6),.int .i64 (cf 7),.int .i64 (cf 8)] 23)):=(Below.refl _ _).alloc (Nat.le_refl _) _
 generalize (W.alloc (.cells #[.int .i64 (cf 0),.int .i64 (cf 1),.int .i64 (cf 2),.int .i64 (cf 3),.int .i64 (cf 4),.int .i64 (cf 5),.int .i64 (cf 6),.int .i64 (cf 7),.int .i64 (cf 8)] 23))=wa at *
 have HWA:=hJ hwa
 clear hwa
 refine (known16_any _).mono ?_
 rintro e w1 ⟨rfl,hb1⟩
 have HB1:=hJ hb1
 obtain ⟨c0,c1,c2,c3,c4,c5,c6,c7,c8⟩:=HC.out _ hb1
 obtain ⟨n,hln⟩:∃n,L.length=n:=⟨_,rfl⟩
 rw [hln] at hn HFW ⊢
 have HLN:=hJ hln
 clear hb1 hln
 go_upto_region 3 with (fail)
 go_cut [36] from 24 to 35 (fun v V=>∃bb,v=.bool bb∧Below wa.heap.size wa V∧(bb=false→(GoodC cf∧cf 4≤512)∧few16B L=true))
 case first=>
  obtain ⟨sm,hsm⟩:∃sm,decide (GoodC cf∧cf 4≤512)=sm:=⟨_,rfl⟩
  obtain ⟨fw,hfw⟩:∃fw,few16B L=fw:=⟨_,rfl⟩
  rw [hsm] at HSM
  rw [hfw] at HFW
  have HE:=hJ (And.intro hsm hfw)
  clear hsm hfw
  cases sm with
  | false=>
    go_wp2_with (first|(go_at_call 13;refine (HSM.out _).mono ?_;rintro e w2 ⟨rfl,hb2⟩;have HB2:=hJ (HB1.out.trans (hb2.mono HB1.out.size));clear hb2))
    go_meet
    exact ⟨true,rfl,HB2.out,fun e=>by cases e⟩
  | true=>
    have HG:=hJ (@of_decide_eq_true _ (_) HE.out.1)
    cases fw with
    | false=>
      go_wp2_with (first|(go_at_call 13;refine (HSM.out _).mono ?_;rintro e w2 ⟨rfl,hb2⟩;have HB2:=hJ (HB1.out.trans (hb2.mono HB1.out.size));clear hb2)|(go_at_call 20;refine (HFW.out _ (HWA.out.trans (HB2.out.mono HWA.out.size))).mono ?_;rintro e w3 ⟨rfl,hb3⟩;have HB3:=hJ (HB2.out.trans (hb3.mono HB2.out.size));clear hb3))
      go_meet
      exact ⟨true,rfl,HB3.out,fun e=>by cases e⟩
    | true=>
      go_wp2_with (first|(go_at_call 13;refine (HSM.out _).mono ?_;rintro e w2 ⟨rfl,hb2⟩;have HB2:=hJ (HB1.out.trans (hb2.mono HB1.out.size));clear hb2)|(go_at_call 20;refine (HFW.out _ (HWA.out.trans (HB2.out.mono HWA.out.size))).mono ?_;rintro e w3 ⟨rfl,hb3⟩;have HB3:=hJ (HB2.out.trans (hb3.mono HB2.out.size));clear hb3;obtain ⟨c0,c1,c2,c3,c4,c5,c6,c7,c8⟩:=HC.out _ HB3.out))
      all_goals
       go_meet
       exact ⟨_,rfl,HB3.out,fun _=>⟨HG.out,HE.out.2⟩⟩
 case rest=>
 obtain ⟨bb,rfl,hb4,hok⟩:=hcut
 have HB4:=hJ hb4
 have HOK:=hJ hok
 clear c0 c1 c2 c3 c4 c5 c6 c7 c8 hb4 hok HFW HSM HB1
 cases bb with
 | true=>
   have HX:=hJ (HWA.out.trans (HB4.out.mono HWA.out.size))
   go_wp2
   go_ret
   exact ⟨rfl,HX.out⟩
 |false=>
 obtain ⟨⟨hg,h5⟩,hfew⟩:=HOK.out rfl
 have HG:=hJ hg
 have HFEW:=hJ (few16_at hfew)
 obtain ⟨c0,c1,c2,c3,c4,c5,c6,c7,c8⟩:=HC.out _ HB4.out
 have HBG:=hJ (begun16_any wc (held:=8) hg (by omega))
 unfold cfgV at HBG
 clear hg h5 hfew HOK
 go_upto_region 6 with (go_at_call 21;refine HBG.out.mono ?_;rintro e w5 ⟨o,t0,C0,sp0,P0,rfl,hws,hon,hs0,hcf⟩;have HWS:=hJ hws;have HON:=hJ hon;have HS0:=hJ hs0;have HCF:=hJ hcf;clear hws hon hs0 hcf)
 have hwc:Below W.heap.size W wc:=HWA.out.trans (HB4.out.mono HWA.out.size)
 have HWC:=hJ hwc
 have HIN0:=hJ (HIN.out wc hwc)
 have HP0:=hJ (HP.out wc hwc)
 have HCC:Hid (∀V,Below wc.heap.size wc V→V.cell? ⟨W.heap.size,4,none⟩=some (.int .i64 (cf 4))∧V.cell? ⟨W.heap.size,8,none⟩=some (.int .i64 (cf 8))):=hJ fun V hV=>⟨(hV.cell (p:=⟨W.heap.size,4,none⟩) (lt_of_cell c4)).trans c4,(hV.cell (p:=⟨W.heap.size,8,none⟩) (lt_of_cell c8)).trans c8⟩
 have HLW:=hJ (lt_of_cell c4)
 clear hwc c0 c1 c2 c3 c4 c5 c6 c7 c8 HBG HC HIN HP
 go_wp2_with fail
 go_loopw [10,11] (fun i _ wr=>∃(j:Nat) (t:PSt ShS) (C:Cu) (sp:List (Option Spc)) (P:List (Option MPr)),j≤n∧i=.int .i64 (j:Nat)∧WS wc wr o t C (1990000-8257*j-2*sumR ((L.take j).map Ac16.op)) (sumR ((L.take j).map Ac16.op)) sp P∧∃s,sp[0]? =some (some s)) (fun i _ _=>n-(intOf i).toNat)
 case atStart=>exact ⟨0,t0,C0,sp0,P0,by omega,rfl,HWS.out,HS0.out⟩
 case round=>
  obtain ⟨j,t,C,sp,P,hj,rfl,hw,h0⟩:=hrel
  have HW:=hJ hw
  have H00:=hJ h0
  clear h0
  have hsl:sumR ((L.take j).map Ac16.op)≤16384:=by
   have:=sumR_le (L:=L.map Ac16.op) j
   rw [List.map_take]
   have:=HFEW.out.2.1
   omega
  have HSL:=hJ hsl
  have hn100:n≤100:=by have:=HFEW.out.1;have:=HLN.out;omega
  by_cases hjn:j<n
  · obtain ⟨x,hx⟩:∃x,L[j]? =some x:=⟨_,List.getElem?_eq_getElem (by have:=HLN.out;omega)⟩
    obtain ⟨ga,oa,rfl,hga,hca⟩:=(HP0.out.up hw.b.bel).at_ (by have:=HLN.out;omega)
    have k0:wr.cell? ⟨ga,oa+j*7,none⟩=some (.int .i64 x.a):=hca j x hx 0 _ rfl
    have k1:wr.cell? ⟨ga,oa+j*7+1,none⟩=some (.int .i64 x.kind):=hca j x hx 1 _ rfl
    have k2:wr.cell? ⟨ga,oa+j*7+2,none⟩=some (.int .i64 x.pid):=hca j x hx 2 _ rfl
    have k3:wr.cell? ⟨ga,oa+j*7+3,none⟩=some (.int .i64 x.at_):=hca j x hx 3 _ rfl
    have k4:wr.cell? ⟨ga,oa+j*7+4,none⟩=some (.int .i64 x.n):=hca j x hx 4 _ rfl
    have k5:wr.cell? ⟨ga,oa+j*7+5,none⟩=some (.int .i64 x.prot):=hca j x hx 5 _ rfl
    have k6:wr.cell? ⟨ga,oa+j*7+6,none⟩=some (.slice x.A x.m x.c):=hca j x hx 6 _ rfl
    have hjI:(j:Int)<(n:Int):=by omega
    have hsm:sumR ((L.take (j+1)).map Ac16.op)=sumR ((L.take j).map Ac16.op)+x.m:=by
     have:=sumR_take (L:=L.map Ac16.op) (j:=j) (x:=x.op) (by rw [List.getElem?_map,hx];rfl)
     rw [List.map_take,List.map_take]
     exact this
    have hsl2:sumR ((L.take (j+1)).map Ac16.op)≤16384:=by
     have:=sumR_le (L:=L.map Ac16.op) (j+1)
     rw [List.map_take]
     have:=HFEW.out.2.1
     omega
    have hmem:=List.mem_of_getElem? hx
    have HSM2:=hJ (And.intro hsm hsl2)
    have HMEM:=hJ hmem
    have HHX:Hid (∀V,Below wr.heap.size wr V→∃t' C' sp' P',WS wc V o t' C' (1990000-8257*(j+1)-2*sumR ((L.take (j+1)).map Ac16.op)) (sumR ((L.take (j+1)).map Ac16.op)) sp' P'∧∃s,sp'[0]? =some (some s)):=hJ fun V hV=>⟨t,C,sp,P,(HW.out.up hV).less (by have:=HSM2.out;omega) (by have:=HSM2.out;omega),H00.out⟩
    have HST:=hJ (fun (V:World) (hV:Below wr.heap.size wr V)=>step16_any (kk:=1990000-8257*(j+1)-2*sumR ((L.take (j+1)).map Ac16.op)) x (HIN0.out x HMEM.out) (HFEW.out.2.2 x HMEM.out) (by have:=HSL.out;have:=HSM2.out;omega) ((HW.out.up hV).less (by have:=HON.out;have:=HSM2.out;omega) (Nat.le_refl _)))
    clear hca hx hsm hsl2 hmem hw hsl
    go_upto_region 12 with (fail)
    refine wp_forget (fun V=>Below wr.heap.size wr V∧AcAt V wr.heap.size x.a x.kind x.pid x.at_ x.n x.prot (.slice x.A x.m x.c)) ⟨(Below.refl _ _).alloc (Nat.le_refl _) _,AcAt.new wr x.a x.kind x.pid x.at_ x.n x.prot (.slice x.A x.m x.c) _⟩ ?_
    rintro V ⟨hbV,hac⟩
    have HBV:=hJ hbV
    obtain ⟨bx,hbx⟩:∃bx,wr.heap.size=bx:=⟨_,rfl⟩
    rw [hbx] at hac
    rw [hbx]
    obtain ⟨x0,x1,x2,x3,x4,x5,x6⟩:=hac
    have lx:=lt_of_cell x0
    clear hbV hbx k0 k1 k2 k3 k4 k5 k6 hga
    by_cases n7:x.kind=7
    · rw [n7] at x1
      go_wp2
      go_roundw
      case rel=>obtain ⟨t',C',sp',P',g1,g2⟩:=HHX.out V HBV.out;exact ⟨j+1,t',C',sp',P',by omega,by go_num,g1,g2⟩
      case measure=>simp [intOf];omega
    by_cases n8:x.kind=8
    · rw [n8] at x1
      clear n7
      go_wp2
      go_roundw
      case rel=>obtain ⟨t',C',sp',P',g1,g2⟩:=HHX.out V HBV.out;exact ⟨j+1,t',C',sp',P',by omega,by go_num,g1,g2⟩
      case measure=>simp [intOf];omega
    have b7:=beq_eq_false_iff_ne.2 n7
    have b8:=beq_eq_false_iff_ne.2 n8
    clear n7 n8
    go_wp2_with (first|(go_at_call 22;refine (HST.out V HBV.out).mono ?_;rintro e w6 ⟨rfl,t6,C6,sp6,P6,h6,h0⟩;have H6:=hJ h6;have H60:=hJ (h0 H00.out);clear h6 h0))
    go_roundw
    case rel=>exact ⟨j+1,t6,C6,sp6,P6,by omega,by go_num,by rw [HSM2.out.1];rw [HSM2.out.1] at H6;exact H6.out,H60.out⟩
    case measure=>simp [intOf];omega
  · obtain rfl:j=n:=by omega
    have hj2:¬(j:Int)<(j:Int):=by omega
    obtain ⟨s,hs0⟩:=H00.out
    obtain ⟨U,hU⟩:∃U,sumR ((L.take j).map Ac16.op)=U:=⟨_,rfl⟩
    rw [hU] at hw hsl
    have hw':=hw.less (kk':=3+64*U) (by omega) (Nat.le_refl U)
    have HW':=hJ hw'
    have HS0':=hJ hs0
    have hU2:U≤16384:=hsl
    obtain ⟨p,hp,hr,hd⟩:=hw'.r.at_ hs0
    have hsn:s.n≤16384:=by have:=hw'.qn hs0;omega
    have hll:(lS (sp.set 0 none)).length<900:=by
     have h1:=List.length_filterMap_le id (sp.set 0 none)
     rw [List.length_set] at h1
     have h2:=hw'.len
     have h3:=hw'.dn
     unfold lS
     omega
    obtain ⟨l,hl⟩:∃l,lS (sp.set 0 none)=l:=⟨_,rfl⟩
    have hh:=hw'.head hs0
    rw [hl] at hh hll
    have HH:=hJ hh
    have HL:=hJ hl
    have HRR:=hJ (And.intro hr hd)
    have HPK:=hJ hp
    have HFK:=hJ (hh.fork hr.rg (by omega) hll)
    have HPG0:=hJ (pages_any hh.lw.sw.pv.at_)
    have c9:=hh.c9
    have c11:=hh.c11
    have lW:=hh.ltW
    obtain ⟨g,hg,lg,hcg,fg⟩:=hh.rAt
    have r0:=hcg 0 _ (qS_at hs0)
    unfold WD.rv at c11
    rw [hg] at c11
    simp only [Option.map_some] at r0
    have hD0:(0:Int)<(o.D.n:Int):=by have:=hw'.dn;omega
    have HGG:=hJ hg
    clear hw hw' hs0 hU hsl hp hr hd hll hl hh hcg fg hg
    go_upto_region 16 with (go_at_call 28;refine HPG0.out.mono ?_;rintro e w7 ⟨rfl,rfl⟩)
    go_upto_region 17 with (go_at_call 32;refine HFK.out.mono ?_;rintro e w8 ⟨X2,M2,A2,cap2,t8,rfl,h8,hm8,ho8⟩;have H8:=hJ h8;have HM8:=hJ hm8;clear h8 hm8 ho8)
    have hcm:t8.cm=t.cm:=SW.cm_eq H8.out.lw.sw HH.out.lw.sw fun id=>by
     constructor
     · rintro ⟨y,hy,hi⟩
       rcases List.mem_cons.1 hy with rfl|hy
       · exact ⟨s,List.mem_cons_self,hi⟩
       · exact ⟨y,hy,hi⟩
     · rintro ⟨y,hy,hi⟩
       exact ⟨y,List.mem_cons_of_mem _ hy,hi⟩
    have HPG8:=hJ (pages_any H8.out.lw.sw.pv.at_)
    rw [hcm] at HPG8
    clear c9 c11 r0 lW lg
    have c9:=H8.out.c9
    have c11:=H8.out.c11
    have lW:=H8.out.ltW
    obtain ⟨g',hg',lg,hcg,fg⟩:=H8.out.rAt
    have r0:=hcg 0 _ (qS_at HS0'.out)
    have e1:g'=g:=by have:=HGG.out.symm.trans hg';cases this;rfl
    subst e1
    unfold WD.rv at c11
    rw [hg'] at c11
    simp only [Option.map_some] at r0
    have HSL1:=hJ (fun (V:World) (hV:Below w8.heap.size w8 V)=>slots_b (((H8.out.up hV).lw.sw.ss s (List.mem_cons_of_mem _ List.mem_cons_self)).sp) (by omega))
    have HSL2:=hJ (fun (V:World) (hV:Below w8.heap.size w8 V)=>slots_b (((H8.out.up hV).lw.sw.ss _ List.mem_cons_self).sp) (by simp only;omega))
    have HCM:=hJ hcm
    clear hcg fg hg' HFK HPG0 hcm
    go_upto_region 20 with (first|(go_at_call 28;refine HPG8.out.mono ?_;rintro e w9 ⟨rfl,rfl⟩)|(go_at_call 19;refine (HSL1.out _ (Below.refl _ _)).mono ?_;rintro e w10 ⟨A9,q9,sl,hsl,rfl,hf9⟩;have HF9:=hJ hf9;have HSO:=hJ hsl;clear hf9 hsl))
    clear c9 c11 r0 lW lg
    go_upto_region 21 with (go_at_call 19;refine (HSL2.out _ HF9.out.2).mono ?_;rintro e w11 ⟨A10,q10,sl2,hsl2,rfl,hf10⟩;have HF10:=hJ hf10;have HSO2:=hJ hsl2;clear hf10 hsl2)
    obtain rfl:sl2=sl:=SlOf.uniq HSO2.out HSO.out
    have HB11:=hJ (HF9.out.2.trans (HF10.out.2.mono HF9.out.2.size))
    have H11:=hJ (H8.out.up HB11.out)
    have HA1:=hJ (HF9.out.1.up HF10.out.2).rg
    have HA2:=hJ HF10.out.1.rg
    have HN1:Hid (∀b,eO A9 sl2.length b→¬wO o t8 (⟨⟨X2,M2,o.d.Q,s.D.cf,s.D.pg,s.D.rg,s.D.ps⟩,A2,cap2,s.L,s.m,s.n⟩::s::l) P b):=hJ fun b hb e=>by
     have h1:=(HF9.out.1.lt (HF9.out.1.own hb)).1
     have h2:=H8.out.lt e
     omega
    have HSN:=hJ HSO.out.len
    have HCF2:=hJ (HCC.out _ H11.out.bel)
    clear HSL1 HSL2 HPG8
    go_wp2_with fail
    go_loopw [16] (fun i wq=>∃q:Nat,q≤s.n∧i=.int .i64 (q:Nat)∧Below w11.heap.size w11 wq) (fun i _=>s.n-(intOf i).toNat)
    case atStart=>exact ⟨0,by omega,rfl,Below.refl _ _⟩
    case round=>
     obtain ⟨q,hq,rfl,hbq⟩:=hrel
     have HBQ:=hJ hbq
     by_cases hqn:q<s.n
     · have hqI:(q:Int)<(s.n:Int):=by omega
       obtain ⟨⟨y,id⟩,hx⟩:∃x,sl2[q]? =some x:=⟨_,List.getElem?_eq_getElem (by have:=HSN.out;omega)⟩
       obtain ⟨ga,oa,hA9,hga,hca⟩:=(HA1.out.up hbq).at_ (by have:=HSN.out;omega)
       obtain ⟨gb,ob,hA10,hgb,hcb⟩:=(HA2.out.up hbq).at_ (by have:=HSN.out;omega)
       have k0:wr.cell? ⟨ga,oa+q*2,none⟩=some (.int .i64 y):=hca q (y,id) hx 0 _ rfl
       have k1:wr.cell? ⟨ga,oa+q*2+1,none⟩=some (.int .i64 id):=hca q (y,id) hx 1 _ rfl
       have j0:wr.cell? ⟨gb,ob+q*2,none⟩=some (.int .i64 y):=hcb q (y,id) hx 0 _ rfl
       have j1:wr.cell? ⟨gb,ob+q*2+1,none⟩=some (.int .i64 id):=hcb q (y,id) hx 1 _ rfl
       have heq:∀w,(Op.equalIn 10000 59 (.agg #[.int .i64 y,.int .i64 id]) (.agg #[.int .i64 y,.int .i64 id])).run Tryz.prog w=.ok true w:=fun w=>by
        rw [eq_sl];simp
       rw [hA9,hA10]
       clear hbq hca hcb hx hA9 hA10
       go_upto_region 26 with (fail)
       go_quiet (fail)
       go_wp2
       go_roundw
       case rel=>exact ⟨q+1,by omega,by go_num,below_drewN HBQ.out _⟩
       case measure=>simp [intOf];omega
     · obtain rfl:q=s.n:=by omega
       have hq2:¬(s.n:Int)<(s.n:Int):=by omega
       have H12:=hJ (H11.out.up hbq)
       have HA1:=hJ (HA1.out.up hbq)
       obtain ⟨z,hz⟩:∃z:Nat,cf 4=(z:Nat):=⟨(cf 4).toNat,by have:=HG.out.1;omega⟩
       obtain ⟨N,hN⟩:∃N:Nat,cf 8=(N:Nat):=⟨(cf 8).toNat,by have:=HG.out.2.2.2;omega⟩
       have hzb:16≤z∧z≤4096:=by have:=HG.out.1;omega
       have hNb:1≤N∧N≤65536:=by have:=HG.out.2.2.2;omega
       have c4:=(HCC.out _ H12.out.bel).1
       have c8:=(HCC.out _ H12.out.bel).2
       rw [hz] at c4
       rw [hN] at c8
       have hAle:N*z≤268435456:=Nat.le_trans (Nat.mul_le_mul hNb.2 hzb.2) (by decide)
       have hAge:1≤N*z:=Nat.mul_pos (by omega) (by omega)
       have hmul:IntKind.i64.wrap ((N:Int)*(z:Int))=((N*z:Nat):Int):=by rw [←Int.natCast_mul];exact IntWalk.i64_in _ (by omega)
       obtain ⟨T,hT⟩:∃T,N*z=T:=⟨_,rfl⟩
       rw [hT] at hmul hAle hAge
       have HZ:=hJ (And.intro hz (And.intro hN hzb))
       have m0:¬T=0:=by omega
       have m0':¬(T:Int)=0:=by omega
       have m0'':((T:Int)==0)=false:=beq_eq_false_iff_ne.2 m0'
       obtain ⟨tm,htm⟩:∃tm,at_.tmod (T:Int)=tm:=⟨_,rfl⟩
       have htb: -(T:Int)<tm∧tm<(T:Int):=by
        rw [←htm]
        exact ⟨Int.lt_tmod_of_pos _ (by omega),Int.tmod_lt_of_pos _ (by omega)⟩
       have v0:IntKind.i64.wrap tm=tm:=IntWalk.i64_in _ (by omega)
       have v1:IntKind.i64.wrap (tm+(T:Int))=tm+(T:Int):=IntWalk.i64_in _ (by omega)
       obtain ⟨a,ha⟩:∃a:Nat,(a:Int)=if tm<0 then tm+(T:Int) else tm:=⟨(if tm<0 then tm+(T:Int) else tm).toNat,by split<;>omega⟩
       have haT:a<T:=by split at ha<;>omega
       have HTA:=hJ ha
       clear hq hqn hbq hz hN hT ha
       go_upto_if 126 with (fail)
       go_cut [2] from 126 to 129 (fun s2 wq=>s2=.int .i64 (a:Nat)∧wq=wr)
       case first=>
        by_cases hlt:tm<0
        · have HE:=hJ (show tm+(T:Int)=(a:Int) by have:=HTA.out;rw [if_pos hlt] at this;omega)
          go_wp2_with fail
          go_meet
          exact ⟨by rw [HE.out],rfl⟩
        · have HE:=hJ (show tm=(a:Int) by have:=HTA.out;rw [if_neg hlt] at this;omega)
          go_wp2_with fail
          go_meet
          exact ⟨by rw [HE.out],rfl⟩
       case rest=>
       obtain ⟨rfl,hW⟩:=hcut
       have hW2:=hW.symm
       subst hW2
       clear hW m0 m0' m0'' htm htb v0 v1 hmul c8 HTA
       have hpg:s.D.pg=z:=by
        have h1:=HRR.out.2.2.1
        have h2:=HH.out.ma.f.ez
        have h3:=HZ.out.1
        rw [HCF.out] at h2
        omega
       have HPGZ:=hJ hpg
       obtain ⟨b1,hb1⟩:∃x:UInt8,x.toNat=bn:=⟨UInt8.ofNat bn,by rw [UInt8.toNat_ofNat'];omega⟩
       have hBY:SBy (wr.alloc (.cells #[.int .u8 (bn:Nat)] 5)) (some ⟨wr.heap.size,0,none⟩) 1 [b1]:=sby_row9 wr #[.int .u8 (bn:Nat)] [b1] 5 (0,0) (by simp [bv,hb1])
       have hbA:Below wr.heap.size wr (wr.alloc (.cells #[.int .u8 (bn:Nat)] 5)):=(Below.refl _ _).alloc (Nat.le_refl _) _
       have HA:=hJ (H12.out.up hbA)
       have HBA:=hJ hbA
       have hpl:=parts_le (z:=s.D.pg) (a:=a) (n:=1) (by omega)
       have HST:=hJ (SW.store (k:=1+64*U) (s:=Spc.mk ⟨X2,M2,o.d.Q,s.D.cf,s.D.pg,s.D.rg,s.D.ps⟩ A2 cap2 s.L s.m s.n) (l:=s::l) (bs:=[b1]) (bn:=1) (bc:=1) shK_good shP_miss (a:Int) (HA.out.less (k':=1+64*U+2*(partsL s.D.pg (a:Int).toNat [b1].length).length) (by rw [Int.toNat_natCast,List.length_singleton];omega)).lw.sw hBY (Nat.le_refl _) (by omega) (new_vin (w:=wr) (fun q hq=>H12.out.lw.sw.lt (.inl hq)) (Nat.le_refl _) (by simp)))
       clear hpg hb1 hBY hbA hpl
       go_wp2_with fail
       refine HST.out.mono ?_
       rintro e w13 ⟨t13,C13,m13,n13,h13,hn13,hm13,hc⟩
       have HW13:=hJ ((HA.out.less (k':=1+64*U) (by omega)).sw ((HA.out.lw.less (k':=1+64*U) (by omega)).go h13 hn13) hn13)
       have HN13:=hJ hn13
       have HM13:=hJ hm13
       have HPG13:=hJ (pages_any h13.pv.at_)
       have HBEL:Hid (∀V,Below w13.heap.size w13 V→Below W.heap.size W V):=hJ fun V hV=>HWC.out.trans ((HW13.out.bel.trans (hV.mono HW13.out.bel.size)).mono HWC.out.size)
       clear h13 hn13 hm13 HST
       have c9:=HW13.out.c9
       have lW:=HW13.out.ltW
       generalize hce:checkF (Spc.mk ⟨X2,M2,o.d.Q,s.D.cf,s.D.pg,s.D.rg,s.D.ps⟩ A2 cap2 s.L s.m s.n).D (Spc.mk ⟨X2,M2,o.d.Q,s.D.cf,s.D.pg,s.D.rg,s.D.ps⟩ A2 cap2 s.L s.m s.n).L (a:Int) ([b1].length:Nat) 2=ce at hc
       rcases hc with ⟨ck,rfl,rfl,rfl,rfl⟩|⟨ck,rfl,hst⟩|⟨_,hrm,_⟩
       · have hcm:t13.cm=t.cm:=SW.cm_eq HW13.out.lw.sw HH.out.lw.sw fun id=>by
          constructor
          · rintro ⟨y,hy,hi⟩
            rcases List.mem_cons.1 hy with rfl|hy
            · exact ⟨s,List.mem_cons_self,hi⟩
            · exact ⟨y,hy,hi⟩
          · rintro ⟨y,hy,hi⟩
            exact ⟨y,List.mem_cons_of_mem _ hy,hi⟩
         rw [hcm] at HPG13
         clear hce
         go_wp2_with (first|(go_at_call 28;refine HPG13.out.mono ?_;rintro e w14 ⟨rfl,rfl⟩))
         go_ret
         exact ⟨rfl,HBEL.out _ (Below.refl _ _)⟩
       · have hr2:PgRel (Spc.mk ⟨X2,M2,o.d.Q,s.D.cf,s.D.pg,s.D.rg,s.D.ps⟩ A2 cap2 s.L s.m s.n) (kpC C s.m) p:=HRR.out.1.fork (HM8.out s List.mem_cons_self) rfl rfl rfl
         have hok2:=(HA.out.lw.sw.ss _ List.mem_cons_self).ok
         have hr3:=hr2.store (n':=n13) hok2 (hce.trans ck) hst
         have hn13:n13≤100000:=by
          have h1:=hr3.cnt (HW13.out.lw.sw.ss _ List.mem_cons_self).sp
          simp only at h1
          have h2:=stL_len s.D.pg [b1] ((a:Int)).toNat p.L
          have h3:=HW'.out.few p (List.mem_of_getElem? HPK.out)
          rw [List.length_singleton] at h2
          omega
         have hu:∀i id b u,(Spc.mk ⟨X2,M2,o.d.Q,s.D.cf,s.D.pg,s.D.rg,s.D.ps⟩ A2 cap2 s.L s.m s.n).m i=some id→kpC C s.m id=some (b,u)→1<u:=fun i id b u hi hc=>SW.twice HA.out.lw.sw rfl hi hc
         have hid:∀i id,(Spc.mk ⟨X2,M2,o.d.Q,s.D.cf,s.D.pg,s.D.rg,s.D.ps⟩ A2 cap2 s.L s.m s.n).m i=some id→id<(t8.nx:Int):=fun i id hi=>by
          obtain ⟨q,hq⟩:=(HA.out.lw.sw.ss _ List.mem_cons_self).has i id hi
          exact (HA.out.lw.sw.pv.id1 id q hq).2
         have HSH:Hid (∀n' Y,SlOf m13 n' Y→(∀y∈Y,(y∈sl2 ↔ ¬y.1=((a / z:Nat):Int)))∧∃y∈Y,y.1=((a / z:Nat):Int)):=hJ fun n' Y hY=>by
          have:=slots_shared (X:=sl2) hst HSO.out hY hu hid (by have:=HPGZ.out;have:=HZ.out.2.2;simp only;omega)
          rw [Int.toNat_natCast] at this
          simp only at this
          rw [HPGZ.out] at this
          exact this
         have HSL3:=hJ (slots_b (HW13.out.lw.sw.ss _ List.mem_cons_self).sp (by simp only;omega))
         clear hr2 hok2 hr3 hu hid hst ck hce
         go_upto_region 35 with (go_at_call 19;refine HSL3.out.mono ?_;rintro e w14 ⟨A14,q14,sl3,hsl3,rfl,hf14⟩;have HF14:=hJ hf14;have HSO3:=hJ hsl3;clear hf14 hsl3)
         have HSH3:=hJ (HSH.out _ _ HSO3.out)
         have HB14:=hJ HF14.out.2
         have HA3:=hJ HF14.out.1.rg
         have HA1':Hid (EAt slE w14 A9 sl2):=hJ (((HA1.out.up HBA.out).off HN13.out.off (fun b e1 e2=>HN1.out b e2 (.inl e1))).up HB14.out)
         have HS3N:=hJ HSO3.out.len
         have c4:=(HCC.out _ (HW13.out.bel.trans (HB14.out.mono HW13.out.bel.size))).1
         rw [HZ.out.1] at c4
         obtain ⟨pz,hpz⟩:∃pz,a / z=pz:=⟨_,rfl⟩
         rw [hpz] at HSH3
         have hzb:=HZ.out.2.2
         have hqz:(a:Int).tdiv (z:Int)=((pz:Nat):Int):=by rw [←hpz];exact (Int.ofNat_tdiv a z).symm
         have hqz2:(a:Int) / (z:Int)=((pz:Nat):Int):=by rw [←hpz];exact (Int.natCast_ediv a z).symm
         have hpzb:pz≤a:=by rw [←hpz];exact Nat.div_le_self _ _
         have hwq:IntKind.i64.wrap ((pz:Nat):Int)=((pz:Nat):Int):=IntWalk.i64_in _ (by omega)
         have z0:¬z=0:=by omega
         have z0':¬(z:Int)=0:=by omega
         have HQZ:=hJ (And.intro hqz (And.intro hqz2 (And.intro hwq (And.intro z0 z0'))))
         have HC4:Hid (∀V,Below w14.heap.size w14 V→V.cell? ⟨W.heap.size,4,none⟩=some (.int .i64 (z:Nat))):=hJ fun V hV=>(hV.cell (p:=⟨W.heap.size,4,none⟩) (lt_of_cell c4)).trans c4
         clear hpz hqz hqz2 hwq z0 z0' HSH HSL3 c9 lW c4 hpzb hAge
         go_wp2_with fail
         go_loopw [18,19] (fun kv iv wq=>∃q:Nat,q≤n13∧iv=.int .i64 (q:Nat)∧kv=.int .i64 (cntY sl3 pz q:Nat)∧Below w14.heap.size w14 wq) (fun _ iv _=>n13-(intOf iv).toNat)
         case atStart=>exact ⟨0,by omega,rfl,rfl,Below.refl _ _⟩
         case round=>
          obtain ⟨q,hq,rfl,rfl,hbq⟩:=hrel
          have HBQ:=hJ hbq
          by_cases hqn:q<n13
          · have hqI:(q:Int)<(n13:Int):=by omega
            obtain ⟨⟨pg,id⟩,hy⟩:∃x,sl3[q]? =some x:=⟨_,List.getElem?_eq_getElem (by have:=HS3N.out;omega)⟩
            obtain ⟨gb,ob,rfl,hgb,hcb⟩:=(HA3.out.up hbq).at_ (by have:=HS3N.out;omega)
            have j0:wr.cell? ⟨gb,ob+q*2,none⟩=some (.int .i64 pg):=hcb q (pg,id) hy 0 _ rfl
            have j1:wr.cell? ⟨gb,ob+q*2+1,none⟩=some (.int .i64 id):=hcb q (pg,id) hy 1 _ rfl
            have HY:=hJ hy
            have HJ:=hJ (And.intro j0 j1)
            have HAB:=hJ (HA1'.out.up hbq)
            clear hbq hcb hy j0 j1
            go_wp2_with fail
            go_loopw [20,21] (fun sv jv wx=>∃r:Nat,r≤s.n∧jv=.int .i64 (r:Nat)∧sv=.bool (decide ((pg,id)∈sl2.take r))∧Below wr.heap.size wr wx) (fun _ jv _=>s.n-(intOf jv).toNat)
            case atStart=>exact ⟨0,by omega,rfl,by simp,Below.refl _ _⟩
            case round=>
             obtain ⟨r,hr,rfl,rfl,hbx⟩:=hrel
             have HBX:=hJ hbx
             have i0:=(hbx.cell (p:=⟨gb,ob+q*2,none⟩) (lt_of_cell HJ.out.1)).trans HJ.out.1
             have i1:=(hbx.cell (p:=⟨gb,ob+q*2+1,none⟩) (lt_of_cell HJ.out.2)).trans HJ.out.2
             by_cases hrn:r<s.n
             · have hrI:(r:Int)<(s.n:Int):=by omega
               obtain ⟨⟨px,ix⟩,hx⟩:∃x,sl2[r]? =some x:=⟨_,List.getElem?_eq_getElem (by have:=HSN.out;omega)⟩
               obtain ⟨ga,oa,rfl,hga,hca⟩:=(HAB.out.up hbx).at_ (by have:=HSN.out;omega)
               have k0:wr.cell? ⟨ga,oa+r*2,none⟩=some (.int .i64 px):=hca r (px,ix) hx 0 _ rfl
               have k1:wr.cell? ⟨ga,oa+r*2+1,none⟩=some (.int .i64 ix):=hca r (px,ix) hx 1 _ rfl
               obtain ⟨b,hb⟩:∃b,decide ((pg,id)∈sl2.take r)=b:=⟨_,rfl⟩
               have hst:=mem_take_step (y:=(pg,id)) hx
               rw [hb] at hst ⊢
               obtain ⟨d,hd⟩:∃d,decide (px=pg∧ix=id)=d:=⟨_,rfl⟩
               simp only at hst
               rw [hd] at hst
               have heq:∀w,(Op.equalIn 10000 59 (.agg #[.int .i64 px,.int .i64 ix]) (.agg #[.int .i64 pg,.int .i64 id])).run Tryz.prog w=.ok d w:=fun w=>by
                rw [eq_sl,hd]
               have HT:=hJ hst
               clear hca hx hb hst hd hbx
               cases b with
               | true=>
                 clear heq
                 go_upto_region 43 with (fail)
                 go_quiet (fail)
                 go_wp2
                 go_roundw
                 case rel=>exact ⟨r+1,by omega,by go_num,by rw [HT.out];rfl,below_drewN HBX.out _⟩
                 case measure=>simp [intOf];omega
               | false=>
                 go_upto_region 43 with (fail)
                 go_quiet (fail)
                 go_wp2
                 go_roundw
                 case rel=>exact ⟨r+1,by omega,by go_num,by rw [HT.out];simp,below_drewN HBX.out _⟩
                 case measure=>simp [intOf];omega
             · obtain rfl:r=s.n:=by omega
               have hr2:¬(s.n:Int)<(s.n:Int):=by omega
               have htk:sl2.take s.n=sl2:=List.take_of_length_le (by have:=HSN.out;omega)
               rw [htk]
               have hmm:=HSH3.out.1 (pg,id) (List.mem_of_getElem? HY.out)
               simp only at hmm
               have hcs:=cntY_step (p:=pz) HY.out
               simp only at hcs
               obtain ⟨kk,hkk⟩:∃kk,cntY sl3 pz q=kk:=⟨_,rfl⟩
               rw [hkk] at hcs ⊢
               have hkq:kk≤q:=by
                rw [←hkk]
                unfold cntY
                exact Nat.le_trans (List.length_filter_le _ _) (by rw [List.length_take];omega)
               have c4:=HC4.out _ (HBQ.out.trans (hbx.mono HBQ.out.size))
               obtain ⟨hqz,hqz2,hwq,z0,z0'⟩:=HQZ.out
               have HCS:=hJ hcs
               have HB3:=hJ (HBQ.out.trans (hbx.mono HBQ.out.size))
               clear htk hcs hkk hbx i1
               by_cases hp:pg=((pz:Nat):Int)
               · have hno:decide ((pg,id)∈sl2)=false:=decide_eq_false (fun e=>(hmm.1 e) hp)
                 have HP1:=hJ hp
                 rw [hno]
                 rw [hp] at i0
                 have w1:IntKind.i64.wrap ((kk:Int)+1)=((kk+1:Nat):Int):=by rw [IntWalk.i64_in _ (by omega)];omega
                 clear hmm hp hno
                 go_upto_region 44 with (fail)
                 go_quiet (fail)
                 go_wp2
                 go_roundw
                 case rel=>exact ⟨q+1,by omega,by go_num,by rw [HCS.out,if_pos HP1.out];exact congrArg (Value.int .i64) (by omega),below_drewN HB3.out _⟩
                 case measure=>simp [intOf];omega
               · have hno:decide ((pg,id)∈sl2)=true:=decide_eq_true (hmm.2 hp)
                 have HP1:=hJ hp
                 have hpb:(pg==((pz:Nat):Int))=false:=beq_eq_false_iff_ne.2 hp
                 have hpn:(pg !=((pz:Nat):Int))=true:=by rw [bne,hpb];rfl
                 rw [hno]
                 clear hmm hno
                 go_upto_region 44 with (fail)
                 go_quiet (fail)
                 go_wp2
                 go_roundw
                 case rel=>exact ⟨q+1,by omega,by go_num,by rw [HCS.out,if_neg HP1.out];rfl,below_drewN HB3.out _⟩
                 case measure=>simp [intOf];omega
          · obtain rfl:q=n13:=by omega
            have hq3:¬(q:Int)<(q:Int):=by omega
            have hone:=cntY_one HSO3.out HSH3.out.2
            rw [HS3N.out] at hone
            rw [hone]
            have H15:=hJ (HW13.out.up (HB14.out.trans (hbq.mono HB14.out.size)))
            have HCL:=hJ H15.out.close
            clear hbq hone hq
            go_upto_region 49 with (go_at_call 33;refine HCL.out.mono ?_;rintro e w16 ⟨rfl,t16,C16,h16,hm16,_,_⟩;have H16:=hJ h16;have HM16:=hJ hm16;clear h16 hm16)
            have hcm:t16.cm=t.cm:=SW.cm_eq H16.out.lw.sw HH.out.lw.sw fun id=>Iff.rfl
            have HPG16:=hJ (pages_any H16.out.lw.sw.pv.at_)
            rw [hcm] at HPG16
            have hws:WS wc w16 o t16 C16 (1+64*U) U sp P:=by
             refine ⟨?_,HW'.out.r.same fun x hx=>?_,HW'.out.few⟩
             · have:=H16.out.perm (l':=lS sp) (by rw [←HL.out];exact (lS_out HS0'.out).symm)
               exact this
             · have hx':x∈s::l:=by rw [←HL.out];exact (lS_out HS0'.out).mem_iff.1 hx
               rw [HM16.out x hx',HM13.out x hx',HM8.out x hx']
            have HBY:=hJ (bytes16_any (kk:=1) hws (by omega))
            have c9:=H16.out.c9
            have lW:=H16.out.ltW
            clear hcm hws
            go_wp2_with (first|(go_at_call 28;refine HPG16.out.mono ?_;rintro e w17 ⟨rfl,rfl⟩)|(go_at_call 30;refine HBY.out.mono ?_;rintro e w18 ⟨rfl,t18,h18⟩;have H18:=hJ h18;clear h18))
            go_ret
            exact ⟨rfl,HWC.out.trans (H18.out.b.bel.mono HWC.out.size)⟩
       · exact absurd HA.out.lw.rm hrm
open Go.ChangeShapes Go.WideShapes Go.ChangeAt Go.RowKit Go.Joins Go.Deep
theorem cellsU8:Tryz.prog.cellsOf 5=1:=by kernel_rfl
section
variable {H:Type} {enc:TypeId×Value→H} {w:World}
end
end Go.Proofs.YtlhfjaagkgengaaGreat
