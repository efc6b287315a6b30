/- A space: Store, walked. A space: flat memory. Load tells it, Store changes it, byte by byte. -/
import Derived.Test.YtlhfjaagkgengaaGreatPC20
namespace Go.Proofs.YtlhfjaagkgengaaGreat
set_option maxRecDepth 100000
set_option maxHeartbeats 8000000
open Go.RowKit Go.Maps
set_option linter.unusedVariables false
set_option linter.unusedSimpArgs false
section
variable {σ:Type} {K:SnkF σ} {M:Snk K} {P:PSnk K} {w w' w1 w2 wr:World} {d:PD} {t t' t1 t2:PSt σ} {C C':Cu} {k k1 k2:Nat} {D:SpD} {A:Option Addr} {cap n:Nat} {L:List Rg} {m:Int→Option Int}
theorem store_b (hK:K.Good) (hmi:P.Miss) (at_:Int) {bA:Option Addr} {bn bc:Nat} {bs:Bytes} (h:SS M P w d t C (k+2*(partsL D.pg at_.toNat bs.length).length) D A cap L m n) (hS:SBy w bA bn bs) (hbc:bn≤bc) (hbn:bn≤9223372036854775807) (hV:VIn (fun g=>g<w.heap.size∧¬Own d t g) (.slice bA bn bc))
 (hinj:∀i j id,m i=some id→m j=some id→i=j) (hu:∀i id b u,m i=some id→C id=some (b,u)→0≤u∧u≤1000000):
 Calls Tryz.prog 17 #[.pointer (some ⟨D.X,0,none⟩),.int .i64 at_,.slice bA bn bc] w (SrPost M P w d t C k D A cap L m n at_ bs):=by
 have hlen:=hS.1
 have HC:=hJ (check_b h.sp h.ok h.len at_ (bn:Nat) 2)
 have H:=hJ h
 have HKG:=hJ hK
 have HMI:=hJ hmi
 by_cases hz:checkF D L at_ (bn:Nat) 2=0
 · obtain ⟨c1, c2,c3,c4,c5⟩:=check_ok h.ok hz
   obtain ⟨a,rfl⟩:=Int.eq_ofNat_of_zero_le c1
   simp only [Int.toNat_natCast] at H
   have hD:=h.ok
   have hb4:=hD.b4
   rw [hlen] at H
   have HZ:=hJ hz
   rw [hz] at HC
   obtain ⟨ps,hps⟩:∃ps,partsL D.pg a bn=ps:=⟨_,rfl⟩
   have hpl:=partsL_len (z:=D.pg) (a:=a) (n:=bn) (by omega)
   have HIN:Hid (∀x,x∈ps→(1≤x.n∧x.o+x.n≤D.pg)∧x.p≤300000000):=hJ fun x hx=>by
    rw [←hps] at hx
    obtain ⟨g1,g2,g3,g4,g5⟩:=partsL_in (by omega) hx
    have:=Nat.mul_le_mul_left x.p hb4.1
    exact ⟨⟨g2,g1⟩,by omega⟩
   have HSUM:=hJ (partsN_sumN D.pg (by omega) bn a bn jN)
   have HPR:=hJ (partsN_pair D.pg (by omega) bn a bn)
   change Hid (sumN (partsL D.pg a bn)=bn) at HSUM
   change Hid ((partsL D.pg a bn).Pairwise (fun x y=>x.p<y.p)) at HPR
   obtain ⟨R,hR⟩:∃R,R=mkF D.pg C m t.nx ps bs:=⟨_,rfl⟩
   have HPOST:Hid (∀(t':PSt σ) (n':Nat) (V:World),Nxs P (· =D.Mm) w V d t t'→t'.nx=t.nx+R.length→SS M P V d t' (plC C m R (fun i=>(mkM R i).isSome=true)) k D A cap L (plM m R (fun i=>(mkM R i).isSome=true)) n'→SrPost M P w d t C k D A cap L m n (a:Int) bs (.returned (.int .i64 0)) V):=hJ fun t' n' V g1 g2 g3=>
    ⟨t',g1,.inr (.inl ⟨by rw [hlen];exact HZ.out,rfl,by simp only [Int.toNat_natCast];rw [hlen,hps,←hR];exact g2,n',by simp only [Int.toNat_natCast];rw [hlen,hps,←hR];exact g3⟩)⟩
   have HPE:Hid (∀(t':PSt σ) (V:World),Nxs P (· =D.Mm) w V d t t'→t'.nx≤t.nx+ps.length→¬P.room t.s<0→SS M P V d t' C k D A cap L m n→SrPost M P w d t C k D A cap L m n (a:Int) bs (.returned (.int .i64 P.ez)) V):=hJ fun t' V g1 g2 g3 g4=>
    ⟨t',g1,.inr (.inr ⟨by rw [hlen];exact HZ.out,g3,rfl,g4,by simp only [Int.toNat_natCast];rw [hlen,hps];exact g2⟩)⟩
   have HPA:Hid (∀V,Below w.heap.size w V→Calls Tryz.prog 62 #[.pointer (some ⟨D.X,0,none⟩),.int .i64 (a:Nat),.int .i64 (bn:Nat)] V fun e w'=>∃A' c',e=.returned (.slice A' ps.length c')∧FrP V w' (.slice A' ps.length c') (ps.map Pt.rg)):=hJ fun V hb=>by
    have:=parts_b (h.sp.up hb) hD (a:=a) (k:=bn) (by omega) (by omega)
    rw [hps] at this
    exact this
   rw [hps] at H hpl HSUM HPR
   have HS:=hJ hS
   have HV:=hJ hV
   have HINJ:=hJ hinj
   have HU:=hJ hu
   have hez:(P.ez !=0)=true:=by simp [P.ez0]
   obtain ⟨ez,hze⟩:∃z,P.ez=z:=⟨_,rfl⟩
   rw [hze] at HPE hez
   have HEZ:=hJ hze
   have HR:=hJ hR
   have HMK:Hid (∀l,(∃r,l ++ r=R)→MkOk C m l t.nx):=hJ fun l ⟨r,hr⟩=>by
    have h1:=(mkF_ids D.pg C m ps t.nx bs).1
    have h2:=mkF_places D.pg C m ps t.nx bs HPR.out
    have h3:=fun e=>mkF_mem D.pg C m ps t.nx bs e
    rw [←hR,←hr] at h1 h2 h3
    exact ⟨(List.pairwise_append.1 h1).1,(List.pairwise_append.1 h2).1,fun e he=>(h3 e (List.mem_append_left _ he)).1,fun i p hp=>(h.pv.id1 i p hp).2,h.has,hinj⟩
   clear h hz c1 c2 c4 c5 hps hze hR hK hmi hS hV hinj hu HZ
   go_enter Tryz.func17,Tryz.ntmps17
   have HWL:Hid (∀g,spO D A L.length g→g<w.heap.size):=hJ fun g hg=>H.out.sp.lt hg
   have hmm:=@run_makeMap Tryz.prog
   go_upto_region 5 with (go_at_call 61;refine HC.out.mono ?_;rintro e w1 ⟨rfl,hb1⟩;have HB1:=hJ hb1;clear hb1)
   refine wp_forget (fun V=>Below w.heap.size w V∧MapIs Tryz.prog 3 V w1.heap.size (fun _=>none) 0∧w1.heap.size<V.heap.size) ⟨HB1.out.trans ((jB.alloc jN _).mono HB1.out.size),MapIs.made w1,by simp⟩ ?_
   rintro V ⟨hbv,hmv,hsv⟩
   have hwB:=HB1.out.size
   obtain ⟨Bm,hBm⟩:∃g,w1.heap.size=g:=⟨_,rfl⟩
   rw [hBm] at hmv hsv hwB
   rw [hBm]
   have HBV:=hJ hbv
   have HMV:=hJ hmv
   have HPA2:=hJ (HPA.out V hbv)
   clear hbv hmv hmm hBm HPA
   go_wp2_with (go_at_call 62;refine HPA2.out.mono ?_;rintro e w3 ⟨Bp,cp,rfl,hfp⟩;have HFP:=hJ hfp;clear hfp)
   have HI0:Hid (StR M P w w3 d t t C k D A cap L m n Bm Bp ps R 0 [] 0 bA bn bc bs):=by
    have hb3:=HBV.out.trans (HFP.out.2.mono HBV.out.size)
    refine hJ ⟨by rw [Nat.sub_zero];exact H.out.up hb3,Nx.refl.up hb3,rfl,?_,⟨hwB,fun e=>by have:=H.out.pv.lt e;omega⟩,HFP.out.1.rg,fun g hk=>?_,HS.out.up hb3,hbc,HV.out,?_,?_,Nat.le_refl _⟩
    · rw [show mkM []=fun _=>none from by funext i;rfl,spF_none]
      exact HMV.out.off (S:=fun _=>False) (Off.of_below HFP.out.2) id
    · have hk2:=(HFP.out.1.lt (HFP.out.1.own hk)).1
      exact ⟨by omega,fun ho=>by have:=H.out.pv.lt ho;omega,by omega⟩
    · rw [HR.out];rfl
    · rw [List.drop_zero];exact HSUM.out.symm
   have hbb:=HI0.out.bm.1
   clear HFP HPA2 HMV HBV HB1 HC HS HV hbc hlen hsv HSUM
   go_loopw [2,34,10,11,12,14] (fun vb i v10 v11 v12 v14 wr=>∃(i':Nat) (t':PSt σ) (l:List Mk3) (cnt:Nat) (b2:Option Addr) (n2 c2:Nat) (bs2:Bytes),i'≤ps.length∧i=.int .i64 (i':Nat)∧vb=.slice b2 n2 c2∧n2≤bn∧StR M P w wr d t t' C k D A cap L m n Bm Bp ps R i' l cnt b2 n2 c2 bs2) (fun _ i _ _ _ _ _=>ps.length-(intOf i).toNat)
   case atStart=>exact ⟨0,t,[],0,bA,bn,bc,bs,by omega,rfl,rfl,Nat.le_refl _,HI0.out⟩
   case round=>
    obtain ⟨i',t1,l,cnt,b2,n2,c2,bs2,hi,rfl,rfl,hn2,hld⟩:=hrel
    have HLD:=hJ hld
    by_cases hin:i'<ps.length
    · obtain ⟨x,hx⟩:∃x,ps[i']? =some x:=⟨_,jE hin⟩
      obtain ⟨gr,orr,hB,hgr,hcr⟩:=hld.row.at_ (by simp;omega)
      obtain ⟨q0,q1,q2⟩:=hcr i' x.rg (by rw [List.getElem?_map,hx];rfl)
      have HX:=hJ (HIN.out x (jG hx))
      have HXI:=hJ hx
      have hiI:(i':Int)<(ps.length:Int):=by omega
      obtain ⟨hd,hxn,hbs,gb,ob,hb2,hs1,hv1,hs2,hv2⟩:=hld.rest hx HX.out.1.1
      have hcb:=hld.cb
      obtain ⟨xp,xo,xn⟩:=x
      simp only [Pt.rg] at q0 q1 q2
      simp only at hxn hbs hs1 hv1 hs2 hv2
      have HS1:=hJ hs1
      have HV1:=hJ hv1
      have HS2:=hJ hs2
      have HV2:=hJ hv2
      rw [hB]
      have HB:=hJ hB
      have hx1:1≤xn:=HX.out.1.1
      clear hld hcr hx hB hgr hd hs1 hv1 hs2 hv2 hbs
      subst hb2
      go_upto_region 8 with (fail)
      refine wp_forget (fun V=>StR M P w V d t t1 C k D A cap L m n Bm Bp ps R i' l cnt (some ⟨gb,ob,none⟩) n2 c2 bs2∧Rg3 V wr.heap.size (xp:Nat) (xo:Nat) (xn:Nat)∧wr.heap.size<V.heap.size∧¬Own d t1 wr.heap.size∧wr.heap.size≠Bm∧w.heap.size≤wr.heap.size) ⟨HLD.out.up (jB.alloc jN _),Rg3.new wr (xp:Nat) (xo:Nat) (xn:Nat) 120,by simp,fun e=>by have:=HLD.out.ss.pv.lt e;omega,fun e=>by have:=HLD.out.mp.lt;omega,HLD.out.nx.off.size⟩ ?_
      rintro V ⟨hldv,hr3,hb8,hno,hne,hwb8⟩
      obtain ⟨b8,hb8e⟩:∃g,wr.heap.size=g:=⟨_,rfl⟩
      rw [hb8e] at hr3 hb8 hno hne hwb8
      rw [hb8e]
      have HLV:=hJ hldv
      have HR3:=hJ hr3
      have HNO:=hJ (And.intro hno hne)
      have y0:=hr3.c0
      have y1:=hr3.c1
      have y2:=hr3.c2
      have i1:(xn:Int)≤(c2:Int):=by omega
      have i2:(0:Int)≤(xn:Int):=by omega
      obtain ⟨-,-,-,g',o',eg,hs1,hv1,hs2,hv2⟩:=hldv.rest HXI.out hx1
      cases eg
      simp only at hs1 hv1 hs2 hv2
      have HS2V:=hJ hs2
      have HFS:Hid (∀g:Up V,Calls Tryz.prog 63 #[.pointer (some ⟨D.X,0,none⟩),.agg #[.int .i64 (xp:Nat),.int .i64 (xo:Nat),.int .i64 (xn:Nat)],.slice (some ⟨gb,ob,none⟩) xn c2] g.world (FsPost M P g.world d t1 (addC C l) (k+2*(ps.length-(i'+1))) D A cap L m n ⟨xp,xo,xn⟩ (bs2.take xn))):=hJ fun g=>by
       have hss:=hldv.ss.up g.h
       rw [show k+2*(ps.length-i')=k+2*(ps.length-(i'+1))+2 by omega] at hss
       have:=hldv.nx.off.size
       have:=g.h.size
       exact fresh_b HKG.out HMI.out hss ⟨hx1,HX.out.1.2,HX.out.2⟩ (hs1.up g.h) (by omega) (hv1.mono fun q hq=>⟨by omega,hq.2⟩)
      clear hldv hr3 hno hne hs1 hv1 hs2 hv2 HS1 HV1 HS2
      go_upto_region 8 with (fail)
      refine wp_region_up_tail 6 (by kernel_rfl) (by kernel_rfl) (by kernel_rfl) ?_
      simp only [List.take_succ_cons,List.take_zero,List.drop_succ_cons,List.drop_zero]
      repeat (go_big_quiet_step (fail))
      refine wpQuiet_nil ?_
      rintro _ ⟨g,rfl⟩
      go_wp2_with fail
      refine (HFS.out g).mono ?_
      have HSG:=hJ (HLV.out.up g.h)
      have HRG:=hJ (HR3.out.up g.h)
      have HS2G:=hJ (HS2V.out.up g.h)
      rintro e W3 ⟨t3,hx3,hpost⟩
      have HX3:=hJ hx3
      have HRX:=hJ (HRG.out.off hx3.off (fun e=>HNO.out.1 e))
      have z0:=HRX.out.c0
      have z2:=HRX.out.c2
      have lz:=lt_of_cell z2
      have i3:(xn:Int)≤(n2:Int):=by omega
      clear hx3 y0 y1 y2 HFS HRG HR3 HS2V
      have HMO:Hid ((∀e∈l,t.nx≤e.id)∧∀i id,m i=some id→id<(t.nx:Int)):=hJ ⟨fun e he=>by
       have hr:=HLD.out.hR
       have:e∈R:=by rw [←hr];exact List.mem_append_left _ he
       rw [HR.out] at this
       exact (mkF_mem _ _ _ _ _ _ e this).1,fun i id hi=>by
       obtain ⟨p,hp⟩:=H.out.has i id hi
       exact (H.out.pv.id1 id p hp).2⟩
      have HSK:Hid (∀b,skipB (addC C l) m ⟨xp,xo,xn⟩ b=skipB C m ⟨xp,xo,xn⟩ b):=hJ fun b=>skipB_add HMO.out.1 HMO.out.2 _ b
      have HE1:=hJ HSG.out.e1
      have HXL:Hid (t1.nx+1≤t.nx+ps.length):=hJ (by have:=HSG.out.le;have:=HE1.out;omega)
      rcases hpost with ⟨hsk,rfl,hs3,e31,_⟩|⟨hsk,rfl,hs3,e31,_⟩|⟨hsk,hnr,rfl,hs3,e31,_⟩
      · have HN:Hid (∀b' n' c',SBy g.world b' n' (bs2.drop xn)→n'≤c'→n'=sumN (ps.drop (i'+1))→VIn (fun g=>g<w.heap.size∧¬Own d t1 g) (.slice b' n' c')→StR M P w W3 d t t3 C k D A cap L m n Bm Bp ps R (i'+1) l cnt b' n' c' (bs2.drop xn)):=
         hJ fun b' n' c' h1 h2 h3 h4=>HSG.out.skip HKG.out HXI.out (by rw [←HSK.out];exact hsk) hs3 jN HX3.out e31 h1 h2 h3 h4
        clear hsk hs3 e31 HX3 HSG HRX HSK HE1 HMO
        by_cases hxc:xn=c2
        · subst hxc
          obtain rfl:n2=xn:=by omega
          go_wp2
          go_roundw
          case rel=>
           obtain ⟨-,-,h3,-⟩:=HLV.out.rest HXI.out hx1
           simp only at h3
           have e0:=List.eq_nil_of_length_eq_zero (show (bs2.drop _).length=0 by rw [HS2G.out.1];omega)
           have hst:=HN.out (some ⟨gb,ob,none⟩) 0 0 (by rw [e0];exact SBy.nil _ _) jN (by omega) (fun g o n' c' e hp=>by cases e;omega)
           rw [HB.out] at hst
           exact ⟨i'+1,t3,l,cnt,_,_,_,_,by omega,by go_num,rfl,by omega,hst⟩
          case measure=>simp [intOf];omega
        · go_wp2
          go_roundw
          case rel=>
           obtain ⟨-,-,h3,g',o',eg,-,-,-,hv2⟩:=HLV.out.rest HXI.out hx1
           cases eg
           have hst:=HN.out _ (n2-xn) (c2-xn) HS2G.out (by omega) h3 hv2
           rw [HB.out] at hst
           exact ⟨i'+1,t3,l,cnt,_,_,_,_,by omega,by go_num,rfl,by omega,hst⟩
          case measure=>simp [intOf];omega
      · have hne1:=HE1.out
        rw [hne1] at hs3
        have e9:=addC_snoc C l ⟨xp,t.nx+l.length,setB (memF D.pg C m xp) xo (bs2.take xn)⟩
        simp only at e9
        rw [memF_add HMO.out.1 HMO.out.2,←e9] at hs3
        have hn1:=H.out.pv.inv.nx1
        have i4:(0:Int)<((t1.nx:Nat):Int):=by omega
        have HN:Hid (∀b' n' c',SBy g.world b' n' (bs2.drop xn)→n'≤c'→n'=sumN (ps.drop (i'+1))→VIn (fun g=>g<w.heap.size∧¬Own d t1 g) (.slice b' n' c')→∃w3 cnt',(Instr.mapUpdate 112 (.map (some Bm)) (.int .i64 (xp:Nat)) (.int .i64 ((t1.nx:Nat):Int))).run Tryz.prog W3=.ok () w3∧Off (· =Bm) W3 w3∧
         StR M P w w3 d t t3 C k D A cap L m n Bm Bp ps R (i'+1) (l ++ [⟨xp,t.nx+l.length,setB (memF D.pg C m xp) xo (bs2.take xn)⟩]) cnt' b' n' c' (bs2.drop xn)):=
         hJ fun b' n' c' h1 h2 h3 h4=>HSG.out.more HKG.out HXI.out HX.out.2 (by rw [←HSK.out];exact hsk) hs3 jN HX3.out e31 h1 h2 h3 h4 HWL.out
        clear hsk hs3 e31 HX3 HSG HRX HSK HE1 HMO e9 hne1
        by_cases hxc:xn=c2
        · subst hxc
          obtain rfl:n2=xn:=by omega
          obtain ⟨-,-,h3,-⟩:=HLV.out.rest HXI.out hx1
          simp only at h3
          have e0:=List.eq_nil_of_length_eq_zero (show (bs2.drop _).length=0 by rw [HS2G.out.1];omega)
          obtain ⟨w4,cnt',hr4,-,hst⟩:=HN.out (some ⟨gb,ob,none⟩) 0 0 (by rw [e0];exact SBy.nil _ _) jN (by omega) (fun g o n' c' e hp=>by cases e;omega)
          rw [HB.out] at hst
          have HST:=hJ hst
          clear h3 e0 hst HN
          go_wp2
          go_roundw
          case rel=>exact ⟨i'+1,t3,_,cnt',_,_,_,_,by omega,by go_num,rfl,by omega,HST.out⟩
          case measure=>simp [intOf];omega
        · obtain ⟨-,-,h3,g',o',eg,-,-,-,hv2⟩:=HLV.out.rest HXI.out hx1
          cases eg
          obtain ⟨w4,cnt',hr4,-,hst⟩:=HN.out _ (n2-xn) (c2-xn) HS2G.out (by omega) h3 hv2
          rw [HB.out] at hst
          have HST:=hJ hst
          clear h3 hv2 hst HN
          go_wp2
          go_roundw
          case rel=>exact ⟨i'+1,t3,_,cnt',_,_,_,_,by omega,by go_num,rfl,by omega,HST.out⟩
          case measure=>simp [intOf];omega
      · rw [HEZ.out]
        have hlen2:l.length≤ps.length:=by
         have h1:=mkF_len D.pg C m ps t.nx bs
         have h2:=congrArg List.length HLD.out.hR
         rw [List.length_append,HR.out] at h2
         omega
        have hmp3:=HSG.out.mp.off HX3.out.off HSG.out.bm.2
        have hkB:=HX3.out.keep HSG.out.mp.lt HSG.out.bm.2
        have hMK:=HMK.out l ⟨_,HLD.out.hR⟩
        obtain ⟨W4,hrg,hit,hb4⟩:=MapIs.range hmp3 Tryz.underlying112
        have HSD:Hid (StD M P w W4 d t t3 C k D A cap L m n Bm W3.heap.size l (fun _=>True) cnt (t.nx+ps.length)):=by
         have hs4:=(hs3.up hb4).less HKG.out (Nat.le_add_right k _)
         refine hJ ⟨by rw [dnL_none,drC_none];exact hs4,(HSG.out.nx.trans HX3.out).up hb4,?_,hit,⟨⟨HSG.out.bm.1,hkB.2⟩,?_,fun e=>?_⟩,by omega⟩
         · have:=HE1.out
           have:=HXL.out
           omega
         · have:=HSG.out.nx.off.size
           have:=HX3.out.off.size
           omega
         · have:=hs3.pv.lt e
           omega
        have HRM:Hid (¬P.room t.s<0):=hJ fun e=>by have:=HSG.out.nx.rm e;omega
        obtain ⟨Br,hBr⟩:∃g,W3.heap.size=g:=⟨_,rfl⟩
        rw [hBr] at hrg HSD
        have HMK2:=hJ hMK
        clear hmp3 hkB hMK hit hb4 hBr hs3 hsk hnr e31 HX3 HSG HRX HSK HE1 HMO
        go_wp2_with fail
        go_loopw [14] (fun _ wr=>∃(left:Value→Prop) (c':Nat) (t':PSt σ),StD M P w wr d t t' C k D A cap L m n Bm Br l left c' (t.nx+ps.length)) (fun _ wr=>wr.rangeLeft Bm Br)
        case atStart=>exact ⟨_,_,_,HSD.out⟩
        case round=>
         obtain ⟨left,c',t4,hsd⟩:=hrel
         have HD:=hJ hsd
         have hnx:=hsd.it.next hsd.ne
         clear hsd hrg HSD
         rcases hnx with ⟨h0,hno,hrun⟩|⟨key,val,w5,hf,hlf,hpos,⟨kl,hkl⟩,hrun,ho,hs5,hit5,hent⟩
         · have HNO:=hJ hno
           clear hno h0
           go_wp2
           go_ret
           have hall:∀e∈l,dnL l left (e.p:Int):=fun e he=>by
            have:=mkM_mem l HMK2.out.pl e he
            exact ⟨by rw [this];rfl,HNO.out _ (.int .i64 (e.id:Int)) (by rw [spF_at,this];rfl)⟩
           have hss:=HD.out.ss
           rw [drC_all C l hall] at hss
           exact HPE.out t4 _ HD.out.nx.nxs HD.out.e1 (by have:=HRM.out;omega) hss
         · obtain ⟨pk,idk,rfl,hmk,rfl⟩:=spF_inv hf
           obtain ⟨e,he,rfl,rfl⟩:=mkM_some l _ _ hmk
           have hss5:=HD.out.ss.offL ho (fun b e2=>by rw [e2];exact HD.out.bm.2.2) (fun b e2 hb=>by
            have h1:=HWL.out b (by simpa using hb)
            have h2:=HD.out.bm.2.1
            omega)
           have s9:=hss5.sp.c9
           rw [hss5.q] at s9
           have lX5:=hss5.sp.ltX
           have HDP:=hJ (dr_drop HMK2.out he (fun hd=>hd.2 hlf) (dnL_step hmk) hss5)
           have HIT5:=hJ hit5
           have HO5:=hJ ho
           clear hf hlf hkl ho hit5 hss5
           go_wp2_with (go_at_call 64;go_loud (refine HDP.out.mono ?_;rintro e6 w6 ⟨rfl,t6,hx6,e61,hs6⟩;have HX6:=hJ hx6;have HS6:=hJ hs6;have HE6:=hJ e61;clear hx6 hs6 e61))
           have HSD6:Hid (StD M P w w6 d t t6 C k D A cap L m n Bm Br l (fun x=>left x∧x≠.int .i64 (e.p:Int)) (c'-1) (t.nx+ps.length)):=by
            have hx6:=HX6.out
            have hb:=HD.out.bm
            have hit:=HIT5.out
            refine hJ ⟨HS6.out,(HD.out.nx.offN HO5.out (fun q e2=>by rw [e2];exact hb.2.1)).trans hx6,by rw [HE6.out];exact HD.out.e1,hit.off hx6.off hb.1.2 hb.2.2,⟨⟨hb.1.1,(hx6.keep hit.lt.1 hb.1.2).2⟩,hb.2.1,(hx6.keep hit.lt.2 hb.2.2).2⟩,HD.out.ne⟩
           go_roundw
           case rel=>exact ⟨_,_,_,HSD6.out⟩
           case measure=>rw [HSD6.out.it.left_eq,HD.out.it.left_eq];omega
    · obtain rfl:i'=ps.length:=by omega
      have hii:¬(ps.length:Int)<(ps.length:Int):=by omega
      have hRl:=hld.hR
      rw [List.drop_length,mkF,List.append_nil] at hRl
      subst hRl
      obtain ⟨W4,hrg,hit,hb4⟩:=MapIs.range hld.mp Tryz.underlying112
      have HMK2:=hJ (HMK.out l ⟨[],by rw [List.append_nil]⟩)
      have HSL:Hid (StL M P w W4 d t t1 C k D A cap L m n Bm wr.heap.size l (fun _=>True) cnt):=by
       have hs4:=(hld.ss.up hb4).less HKG.out (Nat.le_add_right k _)
       refine hJ ⟨by rw [dnL_none,plC_none,plM_none];exact hs4,(hld.nx.up hb4).nxs,hld.e1,hit,⟨hld.bm,hld.nx.off.size,fun e=>by have:=hld.ss.pv.lt e;omega⟩,fun e=>by have:=hld.mp.lt;omega⟩
      obtain ⟨Br,hBr⟩:∃g,wr.heap.size=g:=⟨_,rfl⟩
      rw [hBr] at hrg HSL
      clear hin hld HLD hit hb4 hBr
      go_wp2_with fail
      go_loopw [15,16,17,18] (fun _ _ _ _ wr=>∃(left:Value→Prop) (c':Nat) (t':PSt σ) (n':Nat),StL M P w wr d t t' C k D A cap L m n' Bm Br l left c') (fun _ _ _ _ wr=>wr.rangeLeft Bm Br)
      case atStart=>exact ⟨_,_,_,_,HSL.out⟩
      case round=>
       obtain ⟨left,c',t4,n4,hsl⟩:=hrel
       have HL:=hJ hsl
       have hnx:=hsl.it.next hsl.ne
       clear hsl hrg HSL
       rcases hnx with ⟨h0,hno,hrun⟩|⟨key,val,w5,hf,hlf,hpos,⟨kl,hkl⟩,hrun,ho,hs5,hit5,hent⟩
       · have HNO:=hJ hno
         clear hno h0
         go_wp2
         go_ret
         have hss:=HL.out.ss
         rw [dnL_end HNO.out] at hss
         exact HPOST.out t4 _ _ HL.out.nx HL.out.e1 hss
       · obtain ⟨pk,idk,rfl,hmk,rfl⟩:=spF_inv hf
         obtain ⟨e,he,rfl,rfl⟩:=mkM_some l _ _ hmk
         have hss5:=HL.out.ss.offL ho (fun b e2=>by rw [e2];exact HL.out.bm.2.2) (fun b e2 hb=>by
          have h1:=HWL.out b (by simpa using hb)
          have h2:=HL.out.bm.2.1
          omega)
         have hep:e.p≤300000000:=by
          have h1:=he
          rw [HR.out] at h1
          obtain ⟨_,x,hx,hxp⟩:=mkF_mem _ _ _ _ _ _ e h1
          rw [hxp]
          exact (HIN.out x hx).2
         have hnd:¬dnL l left (e.p:Int):=fun hd=>hd.2 hlf
         have hpm:plM m l (dnL l left) (e.p:Int)=m (e.p:Int):=by unfold plM;rw [if_neg hnd]
         have hlk:=hss5.look hep true
         rw [hpm] at hlk
         have s9:=hss5.sp.c9
         rw [hss5.q] at s9
         have s11:=hss5.sp.c11
         have lX5:=hss5.sp.ltX
         have HS5:=hJ hss5
         have HIT5:=hJ hit5
         have HO5:=hJ ho
         have HDN:=hJ (And.intro hnd (dnL_step (left:=left) hmk))
         have HE:=hJ he
         have HFIN:Hid (∀t6 w6 w7 n7,Nx P w5 w6 d t4 t6→t6.nx=t4.nx→SS M P w7 d t6 (plC C m l (dnL l (fun x=>left x∧x≠.int .i64 (e.p:Int)))) k D A cap L (plM m l (dnL l (fun x=>left x∧x≠.int .i64 (e.p:Int)))) n7→Off (· =D.Mm) w6 w7→StL M P w w7 d t t6 C k D A cap L m n7 Bm Br l (fun x=>left x∧x≠.int .i64 (e.p:Int)) (c'-1)):=hJ fun t6 w6 w7 n7 hx6 he6 hs7 ho7=>by
          have hb:=HL.out.bm
          have hit:=HIT5.out
          have hM:=HWL.out D.Mm (.inr (.inl rfl))
          exact ⟨hs7,(((HL.out.nx.offS HO5.out (fun q e2=>by rw [e2];exact .inr hb.2.1)).trans hx6.nxs).offS ho7 (fun q e2=>.inl e2)),by rw [he6];exact HL.out.e1,(hit.off hx6.off hb.1.2 hb.2.2).off ho7 (fun e2=>by have:=hb.1.1;omega) (fun e2=>by have:=hb.2.1;omega),⟨⟨hb.1.1,(hx6.keep hit.lt.1 hb.1.2).2⟩,hb.2.1,(hx6.keep hit.lt.2 hb.2.2).2⟩,HL.out.ne⟩
         clear hf hlf hkl ho hit5 hss5 hnd hpm he
         cases hme:m (e.p:Int) with
         | none=>
           rw [hme] at hlk
           simp only [if_true] at hlk
           have HK:=hJ (st_keep (n1:=n4) HMK2.out HE.out HDN.out.1 HDN.out.2 hep HS5.out Nx.refl rfl HS5.out.sp (by rw [hme];exact HS5.out.pv))
           clear hme
           go_upto_region 26 with (go_at_call 66;go_loud (refine HK.out.mono ?_;rintro e6 w6 ⟨rfl,hsp6,t6,w7,n7,hx6,e61,hr7,hs7,ho7⟩;have HX6:=hJ hx6;have HS7:=hJ hs7;have HO7:=hJ ho7;have HE6:=hJ e61;have r11:=hsp6.c11;have lX6:=hsp6.ltX;clear hsp6 hx6 hs7 ho7 e61))
           clear hlk s9 s11 lX5 HK
           have HS9:=hJ (HFIN.out t6 w6 w7 n7 HX6.out HE6.out HS7.out HO7.out)
           go_wp2
           go_roundw
           case rel=>exact ⟨_,_,_,_,HS9.out⟩
           case measure=>rw [HS9.out.it.left_eq,HL.out.it.left_eq];omega
         | some o=>
           rw [hme] at hlk
           simp only [if_true] at hlk
           have HLT:=hJ (st_let (n1:=n4) HMK2.out HE.out HDN.out.1 HDN.out.2 hep hme (fun b u=>HU.out _ o b u hme) HS5.out)
           have hqq:=H.out.q
           clear hme
           go_upto_region 25 with (go_at_call 65;go_loud (refine HLT.out.mono ?_;rintro e6 w6 ⟨rfl,hsp6,_,hk6⟩;have HK:=hJ hk6;have r9:=hsp6.c9;rw [hqq] at r9;have lX6:=hsp6.ltX;clear hsp6 hk6))
           clear hlk s9 s11 lX5 HLT hqq
           go_upto_region 26 with (go_at_call 66;go_loud (refine HK.out.mono ?_;rintro e6 w6 ⟨rfl,hsp6,t6,w7,n7,hx6,e61,hr7,hs7,ho7⟩;have HX6:=hJ hx6;have HS7:=hJ hs7;have HO7:=hJ ho7;have HE6:=hJ e61;have r11:=hsp6.c11;have lX6:=hsp6.ltX;clear hsp6 hx6 hs7 ho7 e61))
           clear r9 HK
           have HS9:=hJ (HFIN.out t6 _ w7 n7 HX6.out HE6.out HS7.out HO7.out)
           go_wp2
           go_roundw
           case rel=>exact ⟨_,_,_,_,HS9.out⟩
           case measure=>rw [HS9.out.it.left_eq,HL.out.it.left_eq];omega
 · have HP:Hid (∀V,Below w.heap.size w V→SrPost M P w d t C k D A cap L m n at_ bs (.returned (.int .i64 (checkF D L at_ (bn:Nat) 2))) V):=hJ fun V hb=>
    ⟨t,Nxs.refl.up hb,.inl ⟨by rw [hlen];exact hz,by rw [hlen],(h.up hb).less hK (Nat.le_add_right _ _),rfl⟩⟩
   obtain ⟨z,hzz⟩:∃z,checkF D L at_ (bn:Nat) 2=z:=⟨_,rfl⟩
   rw [hzz] at HC hz HP
   have hb0:(z !=0)=true:=by simp [hz]
   clear h hz hzz hK hmi hS hV hinj hu hlen
   go_enter Tryz.func17,Tryz.ntmps17
   go_wp2_with (go_at_call 61;refine HC.out.mono ?_;rintro e w1 ⟨rfl,hb1⟩;have HB1:=hJ hb1;clear hb1)
   go_ret
   exact HP.out _ HB1.out
end
set_option maxRecDepth 100000
set_option maxHeartbeats 8000000
def flatF (z:Nat) (mem:Nat→Bytes) (a:Nat):UInt8:=(mem (a / z)).getD (a%z) 0
def rngF (f:Nat→UInt8) (a n:Nat):Bytes:=(List.range n).map fun i=>f (a+i)
theorem rngF_len (f:Nat→UInt8) (a n:Nat):(rngF f a n).length=n:=by simp [rngF]
theorem rngF_at (f:Nat→UInt8) (a n i:Nat) (h:i<n):(rngF f a n)[i]? =some (f (a+i)):=by
 unfold rngF
 rw [List.getElem?_map,List.getElem?_range h]
 rfl
theorem rngF_add (f:Nat→UInt8) (a n k:Nat):rngF f a (n+k)=rngF f a n ++ rngF f (a+n) k:=by
 apply List.ext_getElem?
 intro i
 by_cases h:i<n
 · rw [List.getElem?_append_left (by rw [rngF_len];exact h),rngF_at _ _ _ _ h,rngF_at _ _ _ _ (by omega)]
 · rw [List.getElem?_append_right (by rw [rngF_len];omega),rngF_len]
   by_cases h2:i<n+k
   · rw [rngF_at _ _ _ _ h2,rngF_at _ _ _ _ (by omega),show a+n+(i-n)=a+i by omega]
   · rw [List.getElem?_eq_none (by rw [rngF_len];omega),List.getElem?_eq_none (by rw [rngF_len];omega)]
theorem rngF_take {b:Bytes} {a k n:Nat} (h:k+n≤b.length) {f:Nat→UInt8} (hf:∀i,i<n→f (a+i)=b.getD (k+i) 0):rngF f a n=(b.drop k).take n:=by
 apply List.ext_getElem?
 intro i
 by_cases hi:i<n
 · rw [rngF_at _ _ _ _ hi,hf i hi,List.getElem?_take,if_pos hi,List.getElem?_drop,List.getD_eq_getElem?_getD,jE (by omega)]
   rfl
 · rw [List.getElem?_eq_none (by rw [rngF_len];omega),List.getElem?_eq_none (by rw [List.length_take];omega)]
theorem flat_at {z:Nat} (hz:0<z) (mem:Nat→Bytes) {p o:Nat} (ho:o<z):flatF z mem (p*z+o)=(mem p).getD o 0:=by
 unfold flatF
 rw [Nat.mul_comm,Nat.mul_add_div hz,Nat.div_eq_of_lt ho,Nat.mul_add_mod,Nat.mod_eq_of_lt ho,Nat.add_zero]
theorem secP_flat {z:Nat} (hz:0<z) {mem:Nat→Bytes} {p o n:Nat} (hl:(mem p).length=z) (h:o+n≤z):secP (mem p) o n=rngF (flatF z mem) (p*z+o) n:=by
 rw [rngF_take (b:=mem p) (k:=o) (by omega) (fun i hi=>by rw [Nat.add_assoc,flat_at hz mem (by omega)])]
 rfl
theorem loadF_flat {z:Nat} (hz:0<z) {mem:Nat→Bytes} (hl:∀i,(mem i).length=z):∀(f a n:Nat),n≤f→loadF mem (partsN z f a n)=rngF (flatF z mem) a n
 | 0,a,n,h=>by
   obtain rfl:n=0:=by omega
   rfl
 | f + 1,a,n,h=>by
   have hm:=Nat.mod_lt a hz
   have hdm:=Nat.div_add_mod a z
   unfold partsN
   split
   · rename_i h0;subst h0;rfl
   · have ih:=loadF_flat hz hl f (a+min n (z-a%z)) (n-min n (z-a%z)) (by omega)
     rw [loadF,List.flatMap_cons]
     rw [loadF] at ih
     rw [ih]
     simp only
     rw [secP_flat hz (hl _) (by omega),show a / z*z+a%z=a by rw [Nat.mul_comm];exact hdm,←rngF_add,show min n (z-a%z)+(n-min n (z-a%z))=n by omega]
def stF:(Nat→Bytes)→List Pt→Bytes→Nat→Bytes
 |mem,[],_=>mem
 |mem,x::ps,b=>stF (fun i=>if i=x.p then setB (mem x.p) x.o (b.take x.n) else mem i) ps (b.drop x.n)
theorem getD_setB {L:Bytes} {off:Nat} {b:Bytes} (h:off+b.length≤L.length) (k:Nat) (hk:k<L.length):(setB L off b).getD k 0=if off≤k∧k<off+b.length then b.getD (k-off) 0 else L.getD k 0:=by
 have:=at8_setB h k hk
 unfold at8 at this
 apply UInt8.toNat_inj.1
 rw [this]
 split<;>rfl
theorem getD_take {b:Bytes} {n i:Nat} (h:i<n):(b.take n).getD i 0=b.getD i 0:=by
 rw [List.getD_eq_getElem?_getD,List.getD_eq_getElem?_getD,List.getElem?_take,if_pos h]
theorem getD_drop {b:Bytes} {n i:Nat}:(b.drop n).getD i 0=b.getD (n+i) 0:=by
 rw [List.getD_eq_getElem?_getD,List.getD_eq_getElem?_getD,List.getElem?_drop]
theorem stF_flat {z:Nat} (hz:0<z):∀(f a n:Nat) (b:Bytes) (mem:Nat→Bytes),(∀i,(mem i).length=z)→b.length=n→n≤f→
 (∀i,(stF mem (partsN z f a n) b i).length=z)∧∀i,flatF z (stF mem (partsN z f a n) b) i=if a≤i∧i<a+n then b.getD (i-a) 0 else flatF z mem i
 | 0,a,n,b,mem,hl,hb,h=>by
   obtain rfl:n=0:=by omega
   exact ⟨hl,fun i=>by rw [if_neg (by omega)];rfl⟩
 | f + 1,a,n,b,mem,hl,hb,h=>by
   have hm:=Nat.mod_lt a hz
   have hdm:=Nat.div_add_mod a z
   unfold partsN
   split
   · rename_i h0
     exact ⟨hl,fun i=>by rw [if_neg (by omega)];rfl⟩
   · have hlt:(b.take (min n (z-a%z))).length=min n (z-a%z):=by rw [List.length_take];omega
     have hl1:∀i,(if i=a / z then setB (mem (a / z)) (a%z) (b.take (min n (z-a%z))) else mem i).length=z:=fun i=>by
      split
      · rw [setB_len (by rw [hl,hlt];omega),hl]
      · exact hl i
     obtain ⟨g1,g2⟩:=stF_flat hz f (a+min n (z-a%z)) (n-min n (z-a%z)) (b.drop (min n (z-a%z))) _ hl1 (by rw [List.length_drop,hb]) (by omega)
     refine ⟨g1,fun i=>?_⟩
     rw [stF]
     simp only
     rw [g2 i]
     generalize hq:min n (z-a%z)=q at *
     by_cases c1:a+q≤i∧i<a+q+(n-q)
     · rw [if_pos c1,if_pos (by omega),getD_drop,show q+(i-(a+q))=i-a by omega]
     · rw [if_neg c1]
       unfold flatF
       simp only
       have hi:=Nat.div_add_mod i z
       have hi2:=Nat.mod_lt i hz
       by_cases c2:i / z=a / z
       · rw [c2] at hi
         rw [if_pos c2,getD_setB (by rw [hl,hlt];omega) _ (by rw [hl];exact hi2),hlt]
         by_cases c3:a≤i∧i<a+q
         · rw [if_pos (by omega),if_pos (by omega),getD_take (by omega),show i%z-a%z=i-a by omega]
         · rw [if_neg (by omega),if_neg (by omega),c2]
       · rw [if_neg c2,if_neg]
         intro hc
         apply c2
         have e1:a / z*z+z=(a / z+1)*z:=by rw [Nat.add_mul,Nat.one_mul]
         refine Nat.le_antisymm ?_ (Nat.div_le_div_right hc.1)
         have:i<(a / z+1)*z:=by rw [←e1,Nat.mul_comm];omega
         exact Nat.le_of_lt_succ ((Nat.div_lt_iff_lt_mul hz).2 this)
theorem stF_none:∀(ps:List Pt) (mem:Nat→Bytes) (b:Bytes) (i:Nat),(∀y∈ps,y.p≠i)→stF mem ps b i=mem i
 |[],_,_,_,_=>rfl
 | x::ps,mem,b,i,h=>by
   rw [stF,stF_none ps _ _ i (fun y hy=>h y (jP hy)),if_neg (fun e=>h x jM e.symm)]
theorem stF_congr:∀(ps:List Pt) (mem mem':Nat→Bytes) (b:Bytes) (i:Nat),mem i=mem' i→stF mem ps b i=stF mem' ps b i
 |[],_,_,_,_,h=>h
 | x::ps,mem,mem',b,i,h=>by
   rw [stF,stF]
   refine stF_congr ps _ _ _ i ?_
   split
   · rename_i e;rw [←e,h]
   · exact h
theorem skipB_mem {C:Cu} {m:Int→Option Int} {x:Pt} {b:Bytes} {z:Nat} (h:skipB C m x b=true):secP (memF z C m x.p) x.o x.n=b∧(m (x.p:Nat)).isSome=true:=by
 unfold skipB at h
 unfold memF
 cases hm:m (x.p:Nat) with
 |none=>rw [hm] at h;cases h
 | some id=>
   rw [hm] at h
   cases hc:C id with
   |none=>simp only [hc] at h;cases h
   | some p=>
     simp only [hc,Bool.and_eq_true,decide_eq_true_eq] at h
     simp only [hc]
     exact ⟨h.2,rfl⟩
theorem mkF_mem_st (z:Nat) (C:Cu) (m:Int→Option Int) (hl:∀i,(memF z C m i).length=z):∀(ps:List Pt) (nx:Nat) (b:Bytes),ps.Pairwise (fun x y=>x.p<y.p)→(∀x∈ps,x.o+x.n≤z)→b.length=sumN ps→∀i,
 (∀e∈mkF z C m nx ps b,e.p=i→e.b=stF (memF z C m) ps b i)∧((∀e∈mkF z C m nx ps b,e.p≠i)→stF (memF z C m) ps b i=memF z C m i∧((∃x∈ps,x.p=i)→(m (i:Nat)).isSome=true))
 |[],_,_,_,_,_,i=>⟨fun e h=>(by cases h),fun _=>⟨rfl,by rintro ⟨x,hx,_⟩;cases hx⟩⟩
 | x ::ps,nx,b,hp,hin,hb,i=>by
   obtain ⟨h1,h2⟩:=List.pairwise_cons.1 hp
   rw [sumN] at hb
   have hin0:=hin x jM
   have hlt:(b.take x.n).length=x.n:=by rw [List.length_take];omega
   have ih:=fun nx=>mkF_mem_st z C m hl ps nx (b.drop x.n) h2 (fun y hy=>hin y (jP hy)) (by rw [List.length_drop];omega) i
   have hne:i=x.p→∀y∈ps,y.p≠i:=fun e y hy=>by have:=h1 y hy;omega
   have hst:stF (memF z C m) (x::ps) b i=if i=x.p then setB (memF z C m x.p) x.o (b.take x.n) else stF (memF z C m) ps (b.drop x.n) i:=by
    rw [stF]
    by_cases e:i=x.p
    · rw [stF_none _ _ _ _ (hne e),if_pos e,if_pos e]
    · rw [if_neg e]
      exact stF_congr _ _ _ _ _ (if_neg e)
   rw [mkF]
   by_cases hs:skipB C m x (b.take x.n)=true
   · rw [if_pos hs]
     obtain ⟨s1,s2⟩:=skipB_mem (z:=z) hs
     have hsame:setB (memF z C m x.p) x.o (b.take x.n)=memF z C m x.p:=setB_same (by rw [hl,hlt];exact hin0) (by rw [hlt];exact s1)
     rw [hst]
     by_cases e:i=x.p
     · rw [if_pos e,hsame]
       refine ⟨fun y hy ye=>?_,fun _=>⟨by rw [e],fun _=>by rw [e];exact s2⟩⟩
       obtain ⟨_,s,hs,e1⟩:=mkF_mem z C m ps _ _ y hy
       exact absurd (e1.symm.trans ye) (hne e s hs)
     · rw [if_neg e]
       refine ⟨(ih nx).1,fun hn=>⟨((ih nx).2 hn).1,?_⟩⟩
       rintro ⟨y,hy,e2⟩
       rcases List.mem_cons.1 hy with rfl|hy
       · exact absurd e2.symm e
       · exact ((ih nx).2 hn).2 ⟨y,hy,e2⟩
   · rw [if_neg hs,hst]
     by_cases e:i=x.p
     · rw [if_pos e]
       refine ⟨fun y hy ye=>?_,fun hn=>absurd e.symm (hn _ jM)⟩
       rcases List.mem_cons.1 hy with rfl|hy
       · rfl
       · obtain ⟨_,s,hs,e1⟩:=mkF_mem z C m ps _ _ y hy
         exact absurd (e1.symm.trans ye) (hne e s hs)
     · rw [if_neg e]
       refine ⟨fun y hy ye=>?_,fun hn=>?_⟩
       · rcases List.mem_cons.1 hy with rfl|hy
         · exact absurd ye.symm e
         · exact (ih (nx+1)).1 y hy ye
       · have g:=(ih (nx+1)).2 fun y hy=>hn y (jP hy)
         refine ⟨g.1,?_⟩
         rintro ⟨y,hy,e2⟩
         rcases List.mem_cons.1 hy with rfl|hy
         · exact absurd e2.symm e
         · exact g.2 ⟨y,hy,e2⟩
theorem partsN_hit {z:Nat} (hz:0<z):∀(f a n:Nat),n≤f→∀i,(∃x∈partsN z f a n,x.p=i) ↔ ∃j,a≤j∧j<a+n∧j / z=i
 | 0,a,n,h,i=>by
   obtain rfl:n=0:=by omega
   constructor
   · rintro ⟨x,hx,_⟩;cases hx
   · rintro ⟨j,h1,h2,_⟩;omega
 | f + 1,a,n,h,i=>by
   have hm:=Nat.mod_lt a hz
   have hdm:=Nat.div_add_mod a z
   unfold partsN
   split
   · constructor
     · rintro ⟨x,hx,_⟩;cases hx
     · rintro ⟨j,h1,h2,_⟩;omega
   · have ih:=partsN_hit hz f (a+min n (z-a%z)) (n-min n (z-a%z)) (by omega) i
     generalize hq:min n (z-a%z)=q at *
     constructor
     · rintro ⟨x,hx,e⟩
       rcases List.mem_cons.1 hx with rfl|hx
       · exact ⟨a,Nat.le_refl _,by omega,e⟩
       · obtain ⟨j,h1,h2,h3⟩:=ih.1 ⟨x,hx,e⟩
         exact ⟨j,by omega,by omega,h3⟩
     · rintro ⟨j,h1,h2,h3⟩
       by_cases c:a+q≤j
       · obtain ⟨x,hx,e⟩:=ih.2 ⟨j,c,by omega,h3⟩
         exact ⟨x,List.mem_cons_of_mem _ hx,e⟩
       · refine ⟨_,jM,?_⟩
         simp only
         rw [←h3]
         refine Nat.le_antisymm (Nat.div_le_div_right h1) ?_
         have e1:a / z*z+z=(a / z+1)*z:=by rw [Nat.add_mul,Nat.one_mul]
         have:j<(a / z+1)*z:=by rw [←e1,Nat.mul_comm];omega
         exact Nat.le_of_lt_succ ((Nat.div_lt_iff_lt_mul hz).2 this)
end Go.Proofs.YtlhfjaagkgengaaGreat
