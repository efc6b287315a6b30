/- A pager: Held, bring, walked. A pager: within, Read. A pager: Write. -/
import Derived.Test.YtlhfjaagkgengaaGreatPC09
import Derived.Laws.CopyOwn
namespace Go.Proofs.YtlhfjaagkgengaaGreat
set_option maxRecDepth 100000
set_option maxHeartbeats 4000000
open Go.RowKit Go.Maps
set_option linter.unusedVariables false
set_option linter.unusedSimpArgs false
section
variable {σ:Type} {K:SnkF σ} {M:Snk K} {P:PSnk K} {w w' w1 w2 w3 w4 w5:World} {d:PD} {t t' t1 t2:PSt σ} {id:Int} {x:Pg} {j:Nat}
theorem held_any (h:PgrAt M w d t):Calls Tryz.prog 31 #[.pointer (some ⟨d.Q,0,none⟩)] w fun e w'=>e=.returned (.int .i64 (cntF qUsed t.F d.n:Nat))∧Below w.heap.size w w':=by
 have q0:=h.q0
 have HC:=hJ (Count_any h.pool)
 clear h
 go_enter Tryz.func31,Tryz.ntmps31
 go_wp2_with fail
 refine HC.out.mono ?_
 rintro e w1 ⟨rfl,hb⟩
 have HB:=hJ hb
 clear hb
 go_wp2
 go_ret
 exact ⟨rfl,HB.out⟩
theorem E1c {z k:Nat} {L:Bytes} (h:Ev P z k none9 t t1) (hx:t.pm id=some x) (hx1:t1.pm id=some x) (hc:cont (P.rd t.s) z x=some L):cont (P.rd t1.s) z x=some L:=by
 obtain ⟨y,e1,_,_,_,_,e6⟩:=h.pg id x (fun e=>e) hx
 rw [hx1] at e1
 cases e1
 exact e6 L hc
theorem vic_full (hi:PI P d t) (hh:t.h<d.n) (hc:cntF qUsed t.F d.n=d.n):∃r i:_,r<d.n∧t.g i=some r∧(sw d.n (2*d.n+1) t.h t.F).1=(r:Nat):=by
 have hu : (t.F 0).used=true:=by
  have hle:∀m,m≤d.n→cntF qUsed t.F m=m→∀i,i<m→(t.F i).used=true:=by
   intro m
   induction m with
   |zero=>intro _ _ i hi;omega
   | succ m ih=>
     intro hm hcc i him
     cases hum:(t.F m).used with
     | true=>
       rw [cntF_yes (q:=qUsed) hum] at hcc
       rcases Nat.lt_or_ge i m with h|h
       · exact ih (by omega) (by omega) i h
       · have:i=m:=by omega
         subst this;exact hum
     | false=>
       rw [cntF_no (q:=qUsed) hum] at hcc
       have:=cntF_le qUsed t.F m
       omega
  exact hle d.n jN hc 0 (by omega)
 rcases vic_cases hi.kv hh with ⟨h1,_⟩|⟨r,h1,h2,h3⟩
 · exfalso
   have:anyC t.F d.n=true:=(anyC_iff _ _).2 ⟨0,by omega,hu,hi.pz 0 (by omega)⟩
   rw [h1] at this
   cases this
 · have hs:=sw_form d.n (by omega) (2*d.n+1) t.h t.F hh
   obtain ⟨g1,g2⟩:=hs
   rcases g2 with g2|⟨r',g2,g3,g4,g5⟩
   · rw [h3] at g2
     simp at g2
   · rw [h3] at g2 g4
     simp at g2
     have hr:r=r':=by omega
     subst hr
     have hur:(t.F r).used=true:=by
      rw [←(g1 r).2.1,h3]
      simp [Fr.cand] at g4
      exact g4.1
     exact ⟨r,_,h2,hi.kv.good.a r h2 hur,by rw [h3]⟩
theorem bring_any (hK:K.Good) (hmi:P.Miss) (h:PgrAt M w d t) (hi:PI P d t) (hx:t.pm id=some x) (hho:t.hole=none∨(t.hole=some id∧t.g id=none)) (hid: -9223372036854775808≤id∧id≤9223372036854775807) (hnx:t.nx<9223372036854775807) (hrd:K.Rdy t.s 1) (write:Bool):
 Calls Tryz.prog 80 #[.pointer (some ⟨d.Q,0,none⟩),.int .i64 id,.pointer (some ⟨x.X,0,none⟩),.bool write] w (BrPost (M:=M) P w d t id x):=by
 have HF:=hJ (Find_any h.pool (int_wf hid))
 have H:=hJ h
 have HI:=hJ hi
 have HX:=hJ hx
 have HRD:=hJ hrd
 have HHO:=hJ hho
 obtain ⟨hz1,hz2⟩:=h.zs
 have q0:=h.q0
 have HPK:=hJ (peek_any hK hmi h hx hi.inn)
 cases hg:t.g id with
 | some j=>
   obtain ⟨hj,hu,hkey⟩:=pi_key hi hg
   have HT:=hJ (Touch_yes h.pool j write hj hu)
   have HG:=hJ hg
   unfold findV findI at HF
   rw [hg] at HF
   simp only [Option.isSome_some] at HF
   clear h hi hx hrd hho hg hu hkey HPK
   go_enter Tryz.func80,Tryz.ntmps80
   go_wp2_with fail
   refine HF.out.mono ?_
   rintro e w1 ⟨rfl,rfl⟩
   go_wp2_with fail
   refine HT.out.mono ?_
   rintro e w1 ⟨rfl,⟨c5,hp5⟩,ho5⟩
   have HE:=hJ (br_res hK HI.out H.out HX.out HG.out (f:={t.F j with ref:=true,dirty:=(t.F j).dirty||write}) rfl rfl rfl hp5 ho5)
   clear hp5 ho5 q0 HF HT
   go_wp2
   go_ret
   exact HE.out
 | none=>
   have hbb:x.bb=none:=by
    cases hb:x.bb with
    |none=>rfl
    |some y=>exact absurd hg (hi.has id x hx (by rw [hb];simp))
   have HBB:=hJ hbb
   have HG:=hJ hg
   unfold findV findI at HF
   rw [hg] at HF
   simp only [Option.isSome_none] at HF
   clear h hi hx hrd hho hg hbb
   go_enter Tryz.func80,Tryz.ntmps80
   go_wp2_with fail
   refine HF.out.mono ?_
   rintro e w1 ⟨rfl,rfl⟩
   go_wp2_with fail
   refine HPK.out.mono ?_
   rintro e w1 ⟨s1,v,er,rfl,h1,ho,hs,⟨L,hc,hl,rfl,B,c,rfl,hby,hB⟩|⟨hc,hbb,hz,rfl,rfl⟩⟩
   case inr=>
    obtain ⟨S1,E1⟩:=stp_sink (z:=d.z) (E:=none9) HI.out h1 ho hs
    have S:=hJ S1
    have E:=hJ E1
    have HC:=hJ hc
    clear h1 ho hs hc hbb hz S1 E1 q0 HF HPK
    go_wp2
    go_ret
    exact ⟨{t with s:=s1},20,rfl,S.out,E.out.more hK (by omega),⟨rfl,rfl,rfl⟩,.inr (.inr ⟨rfl,HC.out,HG.out⟩)⟩
   case inl=>
    obtain ⟨S1,E1⟩:=stp_sink (z:=d.z) (E:=none9) HI.out h1 ho hs
    have S:=hJ S1
    have E:=hJ E1
    have HC:=hJ hc
    have HL:=hJ hl
    have HBY:=hJ hby
    have HRD1:=hJ (hs.rdy 1 HRD.out)
    have HRM:=hJ hs.room
    have HRE:=hJ hs.rd
    have HH:Hid (∀g:Up w1,Calls Tryz.prog 31 #[.pointer (some ⟨d.Q,0,none⟩)] g.world fun e w''=>e=.returned (.int .i64 (cntF qUsed t.F d.n:Nat))∧∃g':Up w1,w''=g'.world):=hJ fun g=>(held_any (h1.up g.h)).mono fun e w'' h=>⟨h.1,⟨w'',g.h.trans (h.2.mono g.h.size)⟩,rfl⟩
    have q2:=h1.q2
    have lQ:=h1.ltQ
    have hcl:=cntF_le qUsed t.F d.n
    clear h1 ho hs hc hl hby S1 E1 q0 HF HPK
    go_upto_region 8 with (fail)
    refine wp_region_up (by kernel_rfl) (by kernel_rfl) ?_
    repeat (go_big_quiet_step (first|(go_at_call 31;exact HH.out _)))
    refine wpQuiet_nil ?_
    rintro _ ⟨g,rfl⟩
    have HS2:=hJ (S.out.up (g.h.mono jN))
    have HBY2:=hJ (HBY.out.off (S:=fun _=>False) hz1 (Off.of_below g.h) (fun e=>e))
    clear HH q2 lQ S HBY
    generalize g.world=W at *
    have q0:=HS2.out.at_.q0
    go_upto_if 51 with (fail)
    generalize hbd:((cntF qUsed t.F d.n:Int)==(d.n:Int))=bd
    have HBD:=hJ hbd
    clear hbd
    go_cut [13] from 52 to 65 (fun _ V=>∃t1,Stp M P w V d t t1∧Ev P d.z 1 none9 t t1∧Num t t1∧t1.g id=none∧t1.pm id=some x∧cntF qUsed t1.F d.n<d.n∧ByAt V d.z B c L∧¬Own d t1 B)
    case first=>
     cases bd with
     | true=>
       have hcc:cntF qUsed t.F d.n=d.n:=by have:=HBD.out;simp at this;omega
       obtain ⟨r,i,hr,hgi,hsw⟩:=vic_full HI.out H.out.pool.hand hcc
       have hii:i≠id:=fun e=>by rw [e,HG.out] at hgi;cases hgi
       obtain ⟨y,hy,_⟩:=HI.out.res i r hgi
       obtain ⟨y1,y2,_⟩:=HI.out.ids i y hy
       have HV:Hid (Calls Tryz.prog 90 #[.pointer (some ⟨d.Pb,0,none⟩)] W fun e w'=>e=.returned (.tuple #[.int .i64 (r:Nat),.bool true])∧Below W.heap.size W w'):=hJ ((Victim_any HS2.out.at_.pool HI.out.kv).mono fun e w' h=>⟨by rw [h.1];show Ending.returned (vicV (sw d.n (2*d.n+1) t.h t.F).1)=_;rw [hsw];unfold vicV;simp,h.2⟩)
       have HIG:=hJ (show i≠id∧t.g i=some r from ⟨hii,hgi⟩)
       have HCC:=hJ hcc
       clear hsw hgi hii hy hcc
       go_wp2_with fail
       refine HV.out.mono ?_
       rintro e w2 ⟨rfl,hb⟩
       have HS3:=hJ (HS2.out.up hb)
       have HBY3:=hJ (HBY2.out.off (S:=fun _=>False) hz1 (Off.of_below hb) (fun e=>e))
       have q0':=HS3.out.at_.q0
       have HOU:=hJ (out_any (id:=i) hK hmi HS3.out.at_ HS3.out.inv HIG.out.2 (by
        show t.hole≠some i
        rcases HHO.out with e|⟨e,_⟩
        · rw [e];simp
        · rw [e];intro e2;exact HIG.out.1 (Option.some.inj e2).symm) (by omega) HRD1.out)
       clear hb HV q0 HS2 HBY2
       go_wp2_with fail
       refine HOU.out.mono ?_
       rintro e w3 ⟨t2,er,rfl,u1,u2,u3,⟨rfl,u4,u5,u6⟩|⟨rfl,u4,u5,u6,u7⟩⟩
       · have hX:=HX.out
         have hne:=HIG.out
         have HU:Hid (∃t1,Stp M P w w3 d t t1∧Ev P d.z 1 none9 t t1∧Num t t1∧t1.g id=none∧t1.pm id=some x∧cntF qUsed t1.F d.n<d.n∧ByAt w3 d.z B c L∧¬Own d t1 B):=by
          have hnB:¬Own d t B:=fun e=>by have:=H.out.ltO e;omega
          refine hJ ⟨t2,HS3.out.trans u1,(E.out.trans u2).more hK (by omega),(num_sink s1).trans u3,?_,(u6 id hne.1.symm).trans hX,?_,HBY3.out.off hz1 u1.off hnB,fun e=>?_⟩
          · rw [u4]
            unfold upd
            rw [if_neg hne.1.symm]
            exact HG.out
          · have e1:=HCC.out
            have e2:cntF qUsed t2.F d.n+1=cntF qUsed t.F d.n:=u5
            omega
          · rcases u1.own B e with e|e
            · exact hnB e
            · have:=HBY3.out.lt hz1;omega
         clear u1 u2 u3 u4 u5 u6 hX hne HOU HS3 HBY3 q0' hcl hr y1 y2
         go_wp2_with fail
         go_meet
         exact HU.out
       · have he0:=P.ez0
         have HU:Hid (BrPost (M:=M) P w d t id x (.returned (.int .i64 P.ez)) w3):=by
          refine hJ ⟨t2,P.ez,rfl,HS3.out.trans u1,(E.out.trans u2).more hK (by omega),(num_sink s1).trans u3,.inr (.inl ⟨rfl,?_,?_⟩)⟩
          · rw [←HRM.out];exact u4
          · rw [u6];exact HG.out
         clear u1 u2 u3 u4 u5 u6 u7 HOU HS3 HBY3 q0' hcl hr y1 y2
         go_wp2
         go_ret
         exact HU.out
     | false=>
       have hcc:¬cntF qUsed t.F d.n=d.n:=by have:=HBD.out;simp at this;omega
       have HU:Hid (∃t1,Stp M P w W d t t1∧Ev P d.z 1 none9 t t1∧Num t t1∧t1.g id=none∧t1.pm id=some x∧cntF qUsed t1.F d.n<d.n∧ByAt W d.z B c L∧¬Own d t1 B):=by
        have hnB:¬Own d t B:=fun e=>by have:=H.out.ltO e;omega
        exact hJ ⟨{t with s:=s1},HS2.out,E.out.more hK (by omega),⟨rfl,rfl,rfl⟩,HG.out,HX.out,by show cntF qUsed t.F d.n<d.n;omega,HBY2.out,hnB⟩
       have HCC:=hJ hcc
       clear hcc hcl q0 HS2 HBY2
       go_wp2_with fail
       go_meet
       exact HU.out
    case rest=>
     obtain ⟨t1,S1,E1,N1,hg1,hx1,hc1,hby1,hB1⟩:=hcut
     obtain ⟨j,hj,hno,htk,hkv,_⟩:=take_room S1.inv.kv S1.at_.pool.hand hg1 hc1
     have HTK:=hJ (Take_any S1.at_.pool (int_wf hid))
     have HR:=hJ htk
     have HS1:=hJ S1
     have HE1:=hJ E1
     have HN1:=hJ N1
     have HG1:=hJ hg1
     have HX1:=hJ hx1
     have HBY1:=hJ hby1
     have HB1:=hJ hB1
     have HNO:=hJ hno
     have HKV:=hJ hkv
     have q0:=S1.at_.q0
     clear S1 E1 N1 hg1 hx1 hc1 hby1 hB1 hno htk hkv HS2 HBY2 hcl
     go_wp2_with fail
     refine HTK.out.mono ?_
     rintro e w5 ⟨he,⟨c5,hp5⟩,ho5⟩
     unfold TakeR.val Fr.val at he
     rw [HR.out.frame,HR.out.out,HR.out.given,HR.out.e] at he
     unfold Fr.zero at he
     subst he
     have HP5:=hJ (hp5.congr HR.out.F HR.out.h HR.out.g)
     have HO5:=hJ ho5
     clear hp5 ho5 HTK q0
     go_upto_region 16 with (fail)
     refine wp_forget (fun V=>Below w5.heap.size w5 V) (by go_grown) ?_
     intro V hb5
     obtain ⟨t2,S2,E2,N2,hx2,hg2,hu2⟩:=br_take hK HS1.out hB HX1.out HG1.out HBB.out (E1c HE1.out HX.out HX1.out HC.out) HBY1.out HB1.out hj HNO.out HKV.out HP5.out HO5.out hb5
     have h3:=(HS1.out.at_.setPool HO5.out HP5.out).up hb5
     have c0:=(h3.pg id x HX1.out).c0
     have f0:=(h3.pg id x HX1.out).fz 0
     have q0:=S2.at_.q0
     have HT:=hJ (Touch_yes S2.at_.pool j write hj hu2)
     have HS2':=hJ S2
     have HE2:=hJ E2
     have HN2:=hJ N2
     have HX2:=hJ hx2
     have HG2:=hJ hg2
     clear S2 E2 N2 hx2 hg2 hu2 hb5 h3
     go_wp2_with fail
     refine HT.out.mono ?_
     rintro e w6 ⟨rfl,⟨c6,hp6⟩,ho6⟩
     have HE:=hJ (stp_touch (f:={t2.F j with ref:=true,dirty:=(t2.F j).dirty||write}) HS2'.out.inv HS2'.out.at_ rfl rfl rfl hp6 ho6)
     clear hp6 ho6 HT c0 f0 q0
     go_wp2
     go_ret
     exact ⟨_,0,rfl,HS2'.out.trans HE.out,((HE1.out.trans HE2.out).trans ev_touch).more hK (by omega),(HN1.out.trans HN2.out).trans ⟨rfl,rfl,rfl⟩,.inl ⟨rfl,⟨B,c,L,HX2.out,HC.out,HL.out⟩,j,HG2.out⟩⟩
end
set_option maxRecDepth 100000
set_option maxHeartbeats 4000000
def inB (z:Nat) (off n:Int):Bool:=decide (0≤off) && decide (0≤n) && decide (n≤(z:Int)) && decide (off≤(z:Int)-n)
theorem inB_iff {z:Nat} {off n:Int}:inB z off n=true ↔ 0≤off∧0≤n∧off+n≤(z:Int):=by
 unfold inB
 simp only [Bool.and_eq_true,decide_eq_true_eq]
 constructor<;>intro h<;>omega
def secP (L:Bytes) (off n:Nat):Bytes:=(L.drop off).take n
def RdPost {σ:Type} {K:SnkF σ} {M:Snk K} (P:PSnk K) (w:World) (d:PD) (t:PSt σ) (id off n:Int) (e:Ending) (w':World):Prop:=
 ∃ t' v er,e=.returned (.tuple #[v,.int .i64 er])∧Stp M P w w' d t t'∧Ev P d.z 1 none9 t t'∧Num t t'∧
   ((er=0∧inB d.z off n=true∧∃x L,t.pm id=some x∧cont (P.rd t.s) d.z x=some L∧L.length=d.z∧(∃A c,v=.slice A n.toNat c)∧SlB w' v (secP L off.toNat n.toNat)∧VIn (fun k=>¬Own d t' k∧w.heap.size≤k) v)∨
   (v=.slice none 0 0∧((er=2∧t.pm id=none)∨(er=1∧inB d.z off n=false∧t.pm id≠none)∨(inB d.z off n=true∧∃x,t.pm id=some x∧((er=P.ez∧P.room t.s=0)∨(er=20∧cont (P.rd t.s) d.z x=none))))))
section
variable {σ:Type} {K:SnkF σ} {M:Snk K} {P:PSnk K} {w w' w1 w2 w3 w4 w5:World} {d:PD} {t t' t1 t2:PSt σ} {id:Int} {x:Pg} {j:Nat}
theorem within_any (h:PgrAt M w d t) (off n:Int):Calls Tryz.prog 79 #[.pointer (some ⟨d.Q,0,none⟩),.int .i64 off,.int .i64 n] w fun e w'=>e=.returned (.bool (inB d.z off n))∧w=w':=by
 have q1:=h.q1
 obtain ⟨hz1,hz2⟩:=h.zs
 clear h
 by_cases h1:0≤off
 · by_cases h2:0≤n
   · by_cases h3:n≤(d.z:Int)
     · have e:Hid (inB d.z off n=decide (off≤(d.z:Int)-n)):=hJ (by unfold inB;simp [h1,h2,h3])
       have hw:wrap64 ((d.z:Int)-n)=(d.z:Int)-n:=by unfold wrap64;omega
       go_enter Tryz.func79,Tryz.ntmps79
       go_wp2
       go_ret
       exact ⟨by rw [e.out];rfl,rfl⟩
     · have e:Hid (inB d.z off n=false):=hJ (by unfold inB;simp [h3])
       go_enter Tryz.func79,Tryz.ntmps79
       go_wp2
       go_ret
       exact ⟨by rw [e.out];rfl,rfl⟩
   · have e:Hid (inB d.z off n=false):=hJ (by unfold inB;simp [h2])
     go_enter Tryz.func79,Tryz.ntmps79
     go_wp2
     go_ret
     exact ⟨by rw [e.out];rfl,rfl⟩
 · have e:Hid (inB d.z off n=false):=hJ (by unfold inB;simp [h1])
   go_enter Tryz.func79,Tryz.ntmps79
   go_wp2
   go_ret
   exact ⟨by rw [e.out];rfl,rfl⟩
theorem vis_none (h0:t.hole=none) (k:Int):visP t.pm t.hole k=t.pm k:=by
 unfold visP
 rw [h0,if_neg (fun e=>by cases e)]
theorem rd_no (hK:K.Good) (h:PgrAt M w d t) (hi:PI P d t) {off n er:Int} (hc:(er=2∧t.pm id=none)∨(er=1∧inB d.z off n=false∧t.pm id≠none)):RdPost (M:=M) P w d t id off n (.returned (.tuple #[.slice none 0 0,.int .i64 er])) w:=
 ⟨t,_,er,rfl,Stp.refl h hi,Ev.refl hK t,Num.refl t,.inr ⟨rfl,hc.elim .inl (fun h=>.inr (.inl h))⟩⟩
theorem ByAt.part {z B c:Nat} {L:Bytes} (h:ByAt w z B c L) {off n:Nat} (hn:off+n≤z) (hz:16≤z):SBy w (some ⟨B,off,none⟩) n (secP L off n):=by
 obtain ⟨b,o,e,hb,hc⟩:=h.sby.2 (by omega)
 cases e
 refine ⟨by unfold secP;rw [List.length_take,List.length_drop,h.len];omega,fun hp=>⟨B,off,rfl,hb,fun k hk=>?_⟩⟩
 have:=hc (off+k) (by omega)
 rw [Nat.zero_add] at this
 rw [this]
 simp [at8,secP,List.getD_eq_getElem?_getD,List.getElem?_take,List.getElem?_drop,hk]
theorem rd_yes {off n:Nat} {A:Option Addr} {c:Nat} {L:Bytes} (S:Stp M P w w1 d t t1) (E:Ev P d.z 1 none9 t t1) (N:Num t t1) (hb:inB d.z (off:Int) (n:Int)=true) (hx:t.pm id=some x) (hc:cont (P.rd t.s) d.z x=some L) (hl:L.length=d.z) (hf:FrB w1 w2 (.slice A n c) (secP L off n)):
 RdPost (M:=M) P w d t id (off:Int) (n:Int) (.returned (.tuple #[.slice A n c,.int .i64 0])) w2:=by
 obtain ⟨h1,h2⟩:=hf.slA
 refine ⟨t1,_,0,rfl,S.up hf.bel,E,N,.inl ⟨rfl,hb,x,L,hx,hc,hl,⟨A,c,rfl⟩,h1.slB,fun b o n' c' e hn=>?_⟩⟩
 have:=h2 b o n' c' e
 refine ⟨fun e2=>?_,Nat.le_trans S.off.size this⟩
 have:=S.at_.ltO e2
 omega
theorem read_any (hK:K.Good) (hmi:P.Miss) (h:PgrAt M w d t) (hi:PI P d t) (h0:t.hole=none) (hid: -9223372036854775808≤id∧id≤9223372036854775807) (hnx:t.nx<9223372036854775807) (hrd:K.Rdy t.s 1) (off n:Int):
 Calls Tryz.prog 27 #[.pointer (some ⟨d.Q,0,none⟩),.int .i64 id,.int .i64 off,.int .i64 n] w (RdPost (M:=M) P w d t id off n):=by
 have hlk:=h.look hid
 rw [vis_none h0] at hlk
 have HW:=hJ (within_any h off n)
 have H:=hJ h
 have HI:=hJ hi
 have H0:=hJ h0
 obtain ⟨hz1,hz2⟩:=h.zs
 have q4:=h.q4
 cases hx:t.pm id with
 | none=>
   rw [hx] at hlk
   have HX:=hJ hx
   simp only [pgP,Option.map_none] at hlk
   clear h hi h0 hx
   go_enter Tryz.func27,Tryz.ntmps27
   go_wp2
   go_ret2
   exact rd_no hK H.out HI.out (.inl ⟨rfl,HX.out⟩)
 | some x=>
   rw [hx] at hlk
   have HX:=hJ hx
   simp only [pgP,Option.map_some] at hlk
   have HBR:=hJ (bring_any hK hmi h hi hx (.inl h0) hid hnx hrd false)
   cases hb:inB d.z off n with
   | false=>
     rw [hb] at HW
     have HB:=hJ hb
     clear h hi h0 hx hb HBR
     go_enter Tryz.func27,Tryz.ntmps27
     go_wp2_with fail
     refine HW.out.mono ?_
     rintro e w1 ⟨rfl,rfl⟩
     go_wp2
     go_ret2
     exact rd_no hK H.out HI.out (.inr ⟨rfl,HB.out,by rw [HX.out];simp⟩)
   | true=>
     rw [hb] at HW
     have HB:=hJ hb
     obtain ⟨o1,o2,o3⟩:=inB_iff.1 hb
     clear h hi h0 hx hb
     go_enter Tryz.func27,Tryz.ntmps27
     go_wp2_with fail
     refine HW.out.mono ?_
     rintro e w1 ⟨rfl,rfl⟩
     go_wp2_with fail
     refine HBR.out.mono ?_
     rintro e w1 ⟨t1,er,rfl,S1,E1,N1,hcs⟩
     have S:=hJ S1
     have E:=hJ E1
     have N:=hJ N1
     clear S1 E1 N1 hlk q4 HW HBR
     rcases hcs with ⟨rfl,⟨B,c,L,hx1,hc,hl⟩,_⟩|hcs
     · obtain ⟨off,rfl⟩:=Int.eq_ofNat_of_zero_le o1
       obtain ⟨n,rfl⟩:=Int.eq_ofNat_of_zero_le o2
       have HC:=hJ hc
       have HL:=hJ hl
       have HX1:=hJ hx1
       have hpg:=S.out.at_.pg id _ hx1
       have hby:=hpg.bs B c L rfl
       have p0:=hpg.c0
       unfold Pg.bv at p0
       simp only [hl] at p0
       have hcap:=hby.cap
       have HBY:=hJ hby
       have hon:off+n≤d.z:=by omega
       clear hc hl hx1 hpg hby o1 o2 o3
       by_cases hcz:off=c
       · subst hcz
         obtain rfl:n=0:=by omega
         go_wp2_with fail
         refine (clone_any _ _ _ _ [] (SBy.nil _ _) (by omega)).mono ?_
         rintro e w2 ⟨A',c',rfl,hf,_⟩
         have HF:=hJ hf
         clear hf p0
         go_wp2
         go_ret2
         exact rd_yes S.out E.out N.out HB.out HX.out HC.out HL.out (n:=0) (by unfold secP;simpa using HF.out)
       · have HCL:=hJ (clone_any w1 (some ⟨B,off,none⟩) n (c-off) _ (HBY.out.part hon hz1) (by omega))
         go_wp2_with fail
         refine HCL.out.mono ?_
         rintro e w2 ⟨A',c',rfl,hf,_⟩
         have HF:=hJ hf
         clear hf p0 HCL
         go_wp2
         go_ret2
         exact rd_yes S.out E.out N.out HB.out HX.out HC.out HL.out HF.out
     · rcases hcs with ⟨rfl,hr,_⟩|⟨rfl,hr,_⟩
       · have HR:=hJ hr
         have he0:=P.ez0
         clear hr
         go_wp2
         go_ret2
         exact ⟨t1,_,P.ez,rfl,S.out,E.out,N.out,.inr ⟨rfl,.inr (.inr ⟨HB.out,x,HX.out,.inl ⟨rfl,HR.out⟩⟩)⟩⟩
       · have HR:=hJ hr
         clear hr
         go_wp2
         go_ret2
         exact ⟨t1,_,20,rfl,S.out,E.out,N.out,.inr ⟨rfl,.inr (.inr ⟨HB.out,x,HX.out,.inr ⟨rfl,HR.out⟩⟩)⟩⟩
end
set_option maxRecDepth 100000
set_option maxHeartbeats 4000000
def setB (L:Bytes) (off:Nat) (b:Bytes):Bytes:=L.take off ++ (b ++ L.drop (off+b.length))
theorem setB_len {L:Bytes} {off:Nat} {b:Bytes} (h:off+b.length≤L.length):(setB L off b).length=L.length:=by simp [setB];omega
theorem setB_same {L:Bytes} {off:Nat} {b:Bytes} (h:off+b.length≤L.length) (he:secP L off b.length=b):setB L off b=L:=by
 unfold setB secP at *
 conv=>rhs;rw [←List.take_append_drop off L,←List.take_append_drop b.length (L.drop off),he,List.drop_drop]
theorem at8_setB {L:Bytes} {off:Nat} {b:Bytes} (h:off+b.length≤L.length) (k:Nat) (hk:k<L.length):at8 (setB L off b) k=if off≤k∧k<off+b.length then at8 b (k-off) else at8 L k:=by
 unfold at8 setB
 rw [List.getD_eq_getElem?_getD,List.getD_eq_getElem?_getD,List.getD_eq_getElem?_getD]
 by_cases h1:k<off
 · rw [if_neg (by omega),List.getElem?_append_left (by simp;omega),List.getElem?_take,if_pos h1]
 · rw [List.getElem?_append_right (by simp;omega)]
   have e:(L.take off).length=off:=by simp;omega
   rw [e]
   by_cases h2:k<off+b.length
   · rw [if_pos ⟨by omega,h2⟩,List.getElem?_append_left (by omega)]
   · rw [if_neg (by omega),List.getElem?_append_right (by omega),List.getElem?_drop]
     rw [show off+b.length+(k-off-b.length)=k by omega]
theorem wpList_copy_by {ops:Array Oper} {rest:List Oper} {o:Oper} {a:Act} {w:World} {Q:Exit→Act→World→Prop} (hgd:o.guard=none) (dd s:Operand)
 (ho:o.op=.call {callee:=.builtin .copy,args:=#[dd,s],argTypes:=#[24,24]}) {z B c off m n dCap sCap:Nat} {L b:Bytes} {dp sp:Option Addr} (hd:a.eval dd=.slice dp n dCap) (hs:a.eval s=.slice sp m sCap)
 (hby:ByAt w z B c L) (hz:16≤z) (hS:SBy w sp m b) (hfit:off+m≤z) (hn:n=z-off) (hdp:0<m→dp=some ⟨B,off,none⟩)
 (h:∀w',ByAt w' z B c (setB L off b)→Off (· =B) w w'→wpList Tryz.prog ops Q rest (a.put o.dst (.int .i64 (m:Nat))) w'):wpList Tryz.prog ops Q (o::rest) a w:=by
 have hsz:(Tryz.prog.info? 5).map (·.size)=some 1:=by
  obtain ⟨i,hi,_,h1,_⟩:=info_parts byte_info
  simp [hi,h1]
 have hbl:=hS.1
 rcases Nat.eq_zero_or_pos m with h0|hp
 · subst h0
   have hb:b=[]:=by simpa using hbl
   subst hb
   have hsame:setB L off []=L:=by simp [setB]
   refine wpList_copy_nothing hgd dd s 24 24 ho 5 Tryz.underlying24 hsz dp sp n dCap 0 sCap hd hs (by exact Nat.zero_min n) ?_
   rw [hsame] at h
   exact h w hby (Off.refl _ _)
 · obtain ⟨b1,o1,rfl,hb1,hc1⟩:=hS.2 hp
   rw [hdp hp] at hd
   obtain ⟨cur,t,hrow,hcur⟩:=hby.row
   have hlen:(b.map bv).length=m:=by simp [hbl]
   refine wpList_copy_own hgd dd s 24 24 ho 5 Tryz.underlying24 hsz B off n dCap ⟨b1,o1,none⟩ m sCap hd hs cur t hrow (b.map bv) ?_ (fun j v hj=>?_) (by rw [hlen];omega) (fun v hv=>?_) ?_
   · rw [hlen]
     show m=min m n
     omega
   · have hj':j<b.length:=by
      rcases Nat.lt_or_ge j b.length with h|h
      · exact h
      · rw [List.getElem?_eq_none (by simpa using h)] at hj;cases hj
     rw [show (⟨b1,o1,none⟩:Addr).add j=⟨b1,o1+j,none⟩ by unfold Addr.add;split<;>simp_all,hc1 j (by omega),at8_get hj']
     simp [hj'] at hj
     rw [←hj]
     rfl
   · obtain ⟨x,_,rfl⟩:=List.mem_map.1 hv
     simp [bv,Value.oneCell']
   · rw [hlen]
     have hBl:=(Array.getElem?_eq_some_iff.1 hrow).1
     have hnew:=setRow_heap w B cur (cur.toList.take off ++ (b.map bv ++ cur.toList.drop (off+m))).toArray t (0,0) hrow
     have hcs:(cur.toList.take off ++ (b.map bv ++ cur.toList.drop (off+m))).length=cur.size:=by simp [hbl];omega
     refine h _ ⟨?_,hby.cap,⟨?_,fun _=>⟨B,0,rfl,?_,fun k hk=>?_⟩⟩,fun k=>?_,_,t,hnew,?_⟩ ⟨rfl,rfl,rfl,by simp [World.setRow],fun k hk hne=>setRow_other w B k _ hne⟩
     · rw [setB_len (by rw [hby.len];omega),hby.len]
     · rw [setB_len (by rw [hby.len];omega),hby.len]
     · exact (Array.getElem?_eq_some_iff.1 hnew).1
     · obtain ⟨b2,o2,e2,_,hc2⟩:=hby.sby.2 (by omega)
       cases e2
       have h2:=hc2 k hk
       rw [Nat.zero_add] at h2 ⊢
       rw [cell_of_row _ _ _ _ _ _ hrow] at h2
       rw [cell_of_row _ _ _ _ _ _ hnew,at8_setB (by rw [hby.len];omega) k (by rw [hby.len];exact hk),List.getElem?_toArray]
       by_cases h1:k<off
       · rw [if_neg (by omega),List.getElem?_append_left (by simp;omega),List.getElem?_take,if_pos h1,Array.getElem?_toList]
         exact h2
       · rw [List.getElem?_append_right (by simp;omega)]
         have e:(cur.toList.take off).length=off:=by simp;omega
         rw [e]
         by_cases h3:k<off+b.length
         · rw [if_pos ⟨by omega,h3⟩,List.getElem?_append_left (by simp;omega),List.getElem?_map]
           have hk3:k-off<b.length:=by omega
           rw [jE hk3,at8_get hk3]
           rfl
         · rw [if_neg (by omega),List.getElem?_append_right (by simp;omega),List.getElem?_drop,List.length_map,hbl]
           rw [show off+m+(k-off-m)=k by omega,Array.getElem?_toList]
           exact h2
     · unfold World.frozen?
       rw [hnew]
       simp
     · have:(cur.toList.take off ++ (b.map bv ++ cur.toList.drop (off+m))).toArray.size=cur.size:=by rw [List.size_toArray];exact hcs
       omega
end Go.Proofs.YtlhfjaagkgengaaGreat
