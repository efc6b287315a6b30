/- A pager: Write, walked. A pager: add, Make, Bring. A pager: Make, Bring, Pages. A pager: Copy. A pager: Drop, Where, Move. A pager: Save, Evict. -/
import Derived.Test.YtlhfjaagkgengaaGreatPC10
namespace Go.Proofs.YtlhfjaagkgengaaGreat
set_option maxRecDepth 100000
set_option maxHeartbeats 4000000
open Go.RowKit Go.Maps
set_option linter.unusedVariables false
set_option linter.unusedSimpArgs false
def WrPost {σ:Type} {K:SnkF σ} {M:Snk K} (P:PSnk K) (w:World) (d:PD) (t:PSt σ) (id off:Int) (b:Bytes) (e:Ending) (w':World):Prop:=
 ∃ t' er,e=.returned (.int .i64 er)∧Stp M P w w' d t t'∧Num t t'∧
   ((er=0∧Ev P d.z 1 (· =id) t t'∧inB d.z off b.length=true∧∃x x' L,t.pm id=some x∧cont (P.rd t.s) d.z x=some L∧L.length=d.z∧t'.pm id=some x'∧x'.X=x.X∧x'.uses=x.uses∧cont (P.rd t'.s) d.z x'=some (setB L off.toNat b))∨
    (Ev P d.z 1 none9 t t'∧((er=2∧t.pm id=none)∨(er=1∧inB d.z off b.length=false∧t.pm id≠none)∨(inB d.z off b.length=true∧∃x,t.pm id=some x∧((er=P.ez∧P.room t.s=0)∨(er=20∧cont (P.rd t.s) d.z x=none))))))
section
variable {σ:Type} {K:SnkF σ} {P:PSnk K} {t t1 t2:PSt σ} {z k1 k2:Nat} {E:Int→Prop}
theorem Ev.trans' (h:Ev P z k1 E t t1) (g:Ev P z k2 none9 t1 t2) (hs:t2.s=t1.s):Ev P z (k1+k2) E t t2:=by
 refine ⟨fun i he hi=>g.no i id (h.no i he hi),fun i x he hx=>?_,h.sub.trans g.sub,by have:=h.cnt;have:=g.cnt;omega,fun hp=>?_,fun hr=>g.room (h.room hr),fun n hn=>g.rdy n (h.rdy _ (by rw [show n+k2+k1=n+(k1+k2) by omega];exact hn))⟩
 · obtain ⟨x1,e1,e2,e3,e4,e5,e6⟩:=h.pg i x he hx
   obtain ⟨x2,f1,f2,f3,f4,f5,f6⟩:=g.pg i x1 id e1
   exact ⟨x2,f1,f2.trans e2,f3.trans e3,f4.trans e4,fun hp=>⟨(f5 (e5 hp).1).1,(f5 (e5 hp).1).2.trans (e5 hp).2⟩,fun L hL=>f6 L (e6 L hL)⟩
 · rw [hs,h.keep hp]
end
section
variable {σ:Type} {K:SnkF σ} {M:Snk K} {P:PSnk K} {w w' w1 w2 w3 w4 w5:World} {d:PD} {t t' t1 t2:PSt σ} {id:Int} {x:Pg} {j:Nat}
theorem wr_done (hK:K.Good) (hi:PI P d t1) (h1:PgrAt M w1 d t1) {B c:Nat} {L L':Bytes} (hx:t1.pm id=some {x with bb:=some (B,c,L)}) (hby:ByAt w2 d.z B c L') (ho:Off (· =B) w1 w2):
 Stp M P w1 ((w2.setCell ⟨x.X,3,none⟩ (.bool false)).setCell ⟨x.X,4,none⟩ (.bool false)) d t1 {t1 with pm:=updP t1.pm id (some {x with bb:=some (B,c,L'),put:=false,zero:=false})}∧
  Ev P d.z 0 (· =id) t1 {t1 with pm:=updP t1.pm id (some {x with bb:=some (B,c,L'),put:=false,zero:=false})}:=by
 obtain ⟨hz,_⟩:=h1.zs
 have hpg:=h1.pg id _ hx
 have hXB:B≠x.X:=hpg.self hz rfl
 have hpg2:PgAt w2 d.z {x with bb:=some (B,c,L')}:=by
  have hX:x.X<w1.heap.size:=hpg.lt
  have hne:¬x.X=B:=fun e=>hXB e.symm
  have hl:L'.length=L.length:=by rw [hby.len,(hpg.bs B c L rfl).len]
  exact ⟨((ho.cell (p:=⟨x.X,0,none⟩) hX hne).trans hpg.c0).trans (by unfold Pg.bv;simp only;rw [hl]),(ho.cell (p:=⟨x.X,1,none⟩) hX hne).trans hpg.c1,(ho.cell (p:=⟨x.X,2,none⟩) hX hne).trans hpg.c2,(ho.cell (p:=⟨x.X,3,none⟩) hX hne).trans hpg.c3,(ho.cell (p:=⟨x.X,4,none⟩) hX hne).trans hpg.c4,(ho.cell (p:=⟨x.X,5,none⟩) hX hne).trans hpg.c5,
   fun k=>(ho.frozen (p:=⟨x.X,k,none⟩) hX hne).trans (hpg.fz k),fun B' c' L'' e=>by cases e;exact hby⟩
 have hp3:=hpg2.set (k:=3) (v:=.bool false) (x':={x with bb:=some (B,c,L'),put:=false}) rfl rfl rfl rfl rfl rfl rfl (fun B c L e=>hpg2.bsX hz e)
 have hp4:=hp3.set (k:=4) (v:=.bool false) (x':={x with bb:=some (B,c,L'),put:=false,zero:=false}) rfl rfl rfl rfl rfl rfl rfl (fun B c L e=>hp3.bsX hz e)
 have hoX:Off ({x with bb:=some (B,c,L)}:Pg).blk w1 ((w2.setCell ⟨x.X,3,none⟩ (.bool false)).setCell ⟨x.X,4,none⟩ (.bool false)):=
  ((ho.mono (S':=({x with bb:=some (B,c,L)}:Pg).blk) (fun k e=>Or.inr ⟨c,L,by rw [e]⟩)).setCell (p:=⟨x.X,3,none⟩) (.inl rfl) _).setCell (p:=⟨x.X,4,none⟩) (.inl rfl) _
 have h4:=h1.setPage (id:=id) (x':={x with bb:=some (B,c,L'),put:=false,zero:=false}) hx rfl (fun k hk=>by
  rcases hk with e|⟨c1,L1,e⟩
  · exact .inl (.inl e)
  · cases e;exact .inl (.inr ⟨c,L,rfl⟩)) hoX hp4
 have hpm:∀i y,updP t1.pm id (some {x with bb:=some (B,c,L'),put:=false,zero:=false}) i=some y→(i=id∧y={x with bb:=some (B,c,L'),put:=false,zero:=false})∨(i≠id∧t1.pm i=some y):=fun i y e=>by
  unfold updP at e
  split at e
  · rename_i h;exact .inl ⟨h,(Option.some.inj e).symm⟩
  · rename_i h;exact .inr ⟨h,e⟩
 refine ⟨⟨h4,?_,?_,?_⟩,?_⟩
 · refine ⟨hi.inn,hi.kv,hi.pz,fun i k hik=>?_,fun i y hy hbb=>?_,fun i y hy hpp=>?_,fun i y B c L hy hzz hbb=>?_,fun i y hy h1 h2=>?_,fun i y hy=>?_,hi.hol,hi.nx1⟩
   · obtain ⟨y,f1,f2⟩:=hi.res i k hik
     by_cases hid:i=id
     · rw [hid];exact ⟨_,updP_same _ _ _,by simp⟩
     · exact ⟨y,(updP_ne _ _ hid).trans f1,f2⟩
   · rcases hpm i y hy with ⟨rfl,rfl⟩|⟨e,f⟩
     · exact hi.has i _ hx (by simp)
     · exact hi.has i y f hbb
   · rcases hpm i y hy with ⟨rfl,rfl⟩|⟨e,f⟩
     · cases hpp
     · exact hi.put i y f hpp
   · rcases hpm i y hy with ⟨rfl,rfl⟩|⟨e,f⟩
     · cases hzz
     · exact hi.zer i y B c L f hzz hbb
   · rcases hpm i y hy with ⟨rfl,rfl⟩|⟨e,f⟩
     · simp
     · exact hi.dty i y f h1 h2
   · rcases hpm i y hy with ⟨rfl,rfl⟩|⟨e,f⟩
     · exact hi.ids i _ hx
     · exact hi.ids i y f
 · exact hoX.mono fun k hk=>.inl (.inr (.inr (.inr (.inr (.inr ⟨id,_,hx,hk⟩)))))
 · intro k hk
   rcases hk with hk|hk
   · rcases own_upd hx hk with e|e
     · exact .inl (.inl e)
     · refine .inl (.inl (.inr (.inr (.inr (.inr (.inr ⟨id,_,hx,?_⟩))))))
       rcases e with e|⟨c1,L1,e⟩
       · exact .inl e
       · cases e;exact .inr ⟨c,L,rfl⟩
   · exact .inl (.inr hk)
 · exact ⟨fun i he hn=>(updP_ne _ _ he).trans hn,fun i y he hy=>⟨y,(updP_ne _ _ he).trans hy,rfl,rfl,rfl,fun h=>⟨h,rfl⟩,fun L hL=>hL⟩,SubR.refl _,Nat.le_refl _,fun _=>rfl,fun h=>h,fun n h=>h⟩
theorem wr_no (hK:K.Good) (h:PgrAt M w d t) (hi:PI P d t) {off er:Int} {b:Bytes} (hc:(er=2∧t.pm id=none)∨(er=1∧inB d.z off b.length=false∧t.pm id≠none)):WrPost (M:=M) P w d t id off b (.returned (.int .i64 er)) w:=
 ⟨t,er,rfl,Stp.refl h hi,Num.refl t,.inr ⟨Ev.refl hK t,hc.elim .inl (fun h=>.inr (.inl h))⟩⟩
theorem wr_same {off:Nat} {b:Bytes} {B c:Nat} {L:Bytes} (S:Stp M P w w1 d t t1) (E:Ev P d.z 1 none9 t t1) (N:Num t t1) (hb:inB d.z (off:Int) b.length=true) (hx:t.pm id=some x) (hc:cont (P.rd t.s) d.z x=some L) (hl:L.length=d.z) (hx1:t1.pm id=some {x with bb:=some (B,c,L)}) (he:setB L off b=L):
 WrPost (M:=M) P w d t id (off:Int) b (.returned (.int .i64 0)) w1:=
 ⟨t1,0,rfl,S,N,.inl ⟨rfl,E.wide (fun _ e=>e.elim),hb,x,_,L,hx,hc,hl,hx1,rfl,rfl,by show cont _ _ _=some (setB L off b);rw [he];rfl⟩⟩
theorem write_any (hK:K.Good) (hmi:P.Miss) (h:PgrAt M w d t) (hi:PI P d t) (h0:t.hole=none) (hid: -9223372036854775808≤id∧id≤9223372036854775807) (hnx:t.nx<9223372036854775807) (hrd:K.Rdy t.s 1) (off:Int) {A:Option Addr} {n cb:Nat} {b:Bytes} (hS:SBy w A n b) (hn:n≤2 ^ 40) (hV:VIn (fun k=>¬Own d t k) (.slice A n cb)):
 Calls Tryz.prog 106 #[.pointer (some ⟨d.Q,0,none⟩),.int .i64 id,.int .i64 off,.slice A n cb] w (WrPost (M:=M) P w d t id off b):=by
 have hlk:=h.look hid
 rw [vis_none h0] at hlk
 have HW:=hJ (within_any h off (n:Int))
 have H:=hJ h
 have HI:=hJ hi
 have H0:=hJ h0
 have HS:=hJ hS
 have HV:=hJ hV
 have HBL:=hJ hS.1
 obtain ⟨hz1,hz2⟩:=h.zs
 have q4:=h.q4
 cases hx:t.pm id with
 | none=>
   rw [hx] at hlk
   have HX:=hJ hx
   simp only [pgP,Option.map_none] at hlk
   clear h hi h0 hx hS hV
   go_enter Tryz.func106,Tryz.ntmps106
   go_wp2
   go_ret
   exact wr_no hK H.out HI.out (.inl ⟨rfl,HX.out⟩)
 | some x=>
   rw [hx] at hlk
   have HX:=hJ hx
   simp only [pgP,Option.map_some] at hlk
   have HBR:=hJ (bring_any hK hmi h hi hx (.inl h0) hid hnx hrd false)
   cases hb:inB d.z off (n:Int) with
   | false=>
     rw [hb] at HW
     have HB:Hid (inB d.z off b.length=false):=hJ (by rw [HBL.out];exact hb)
     clear h hi h0 hx hb HBR hS hV
     go_enter Tryz.func106,Tryz.ntmps106
     go_wp2_with fail
     refine HW.out.mono ?_
     rintro e w1 ⟨rfl,rfl⟩
     go_wp2
     go_ret
     exact wr_no hK H.out HI.out (.inr ⟨rfl,HB.out,by rw [HX.out];simp⟩)
   | true=>
     rw [hb] at HW
     have HB:Hid (inB d.z off b.length=true):=hJ (by rw [HBL.out];exact hb)
     obtain ⟨o1,_,o3⟩:=inB_iff.1 hb
     clear h hi h0 hx hb hS hV
     go_enter Tryz.func106,Tryz.ntmps106
     go_wp2_with fail
     refine HW.out.mono ?_
     rintro e w1 ⟨rfl,rfl⟩
     go_wp2_with fail
     refine HBR.out.mono ?_
     rintro e w1 ⟨t1,er,rfl,S1,E1,N1,hcs⟩
     have S:=hJ S1
     have E:=hJ E1
     have N:=hJ N1
     clear S1 E1 N1 hlk q4 HW HBR
     rcases hcs with ⟨rfl,⟨B,c,L,hx1,hc,hl⟩,j,hg⟩|hcs
     · obtain ⟨off,rfl⟩:=Int.eq_ofNat_of_zero_le o1
       have HC:=hJ hc
       have HL:=hJ hl
       have HX1:=hJ hx1
       have HG:=hJ hg
       have hpg:=S.out.at_.pg id _ hx1
       have hby:=hpg.bs B c L rfl
       have p0:=hpg.c0
       have p3:=hpg.c3
       have p4:=hpg.c4
       have f3:=hpg.fz 3
       have f4:=hpg.fz 4
       unfold Pg.bv at p0
       simp only [hl] at p0 p3 p4 f3 f4
       have hcap:=hby.cap
       have HBY:=hJ hby
       have hon:off+n≤d.z:=by omega
       have hS1:SBy w1 A n b:=by
        have hsl:SlB w (.slice A n n) b:=⟨A,n,n,rfl,Nat.le_refl _,HS.out⟩
        obtain ⟨A',n',c',e,_,h2⟩:=hsl.offP S.out.off (fun b' o n' c' e hp=>by cases e;exact HV.out b' o _ cb rfl hp)
        cases e
        exact h2
       have HS1:=hJ hS1
       clear hc hl hx1 hg hpg hby o1 o3 hS1 HS
       by_cases hcz:off=c
       · subst hcz
         obtain rfl:n=0:=by omega
         have hb0:b=[]:=by have:=HBL.out;simpa using this
         have HEQ:Hid (Calls Tryz.prog 104 #[.slice (some ⟨B,0,none⟩) 0 0,.slice A 0 cb] w1 fun e w'=>e=.returned (.bool true)∧w1=w'):=hJ ((equal_any w1 (some ⟨B,0,none⟩) A 0 0 0 cb [] [] (SBy.nil _ _) (SBy.nil _ _)).mono fun e w' h=>⟨h.1.trans (by simp),h.2.symm⟩)
         go_wp2_with fail
         refine HEQ.out.mono ?_
         rintro e w2 ⟨rfl,rfl⟩
         have HE:Hid (WrPost (M:=M) P w d t id (off:Int) b (.returned (.int .i64 0)) w1):=hJ (wr_same S.out E.out N.out HB.out HX.out HC.out HL.out HX1.out (by simp [setB,hb0]))
         clear hb0 p0 p3 p4 f3 f4 HEQ
         go_wp2
         go_ret
         exact HE.out
       · have HEQ:Hid (Calls Tryz.prog 104 #[.slice (some ⟨B,off,none⟩) n (c-off),.slice A n cb] w1 fun e w'=>e=.returned (.bool (decide (secP L off n=b)))∧w1=w'):=hJ ((equal_any w1 (some ⟨B,off,none⟩) A n (c-off) n cb _ _ (HBY.out.part hon hz1) HS1.out).mono fun e w' h=>⟨h.1,h.2.symm⟩)
         go_wp2_with fail
         refine HEQ.out.mono ?_
         rintro e w2 ⟨rfl,rfl⟩
         by_cases he:secP L off n=b
         · rw [decide_eq_true he]
           have HE:Hid (WrPost (M:=M) P w d t id (off:Int) b (.returned (.int .i64 0)) w1):=hJ (wr_same S.out E.out N.out HB.out HX.out HC.out HL.out HX1.out (setB_same (by rw [HL.out,HBL.out];exact hon) (by rw [HBL.out];exact he)))
           clear he p0 p3 p4 f3 f4 HEQ
           go_wp2
           go_ret
           exact HE.out
         · rw [decide_eq_false he]
           clear he HEQ
           go_upto_region 12 with (with_reducible refine wpList_copy_by rfl (.tmp 53) (.tmp 54) rfl rfl rfl HBY.out hz1 HS1.out hon rfl (fun _=>rfl) ?_;intro w2 hby2 ho2)
           obtain ⟨S2,E2⟩:=wr_done hK S.out.inv S.out.at_ HX1.out hby2 ho2
           have hX:=(S.out.at_.pg id _ HX1.out).lt
           have hXB:¬x.X=B:=fun e=>(S.out.at_.pg id _ HX1.out).self hz1 rfl e.symm
           have p3':=(ho2.cell (p:=⟨x.X,3,none⟩) hX hXB).trans p3
           have p4':=(ho2.cell (p:=⟨x.X,4,none⟩) hX hXB).trans p4
           have f3':=(ho2.frozen (p:=⟨x.X,3,none⟩) hX hXB).trans f3
           have f4':=(ho2.frozen (p:=⟨x.X,4,none⟩) hX hXB).trans f4
           have S2':=hJ S2
           have E2':=hJ E2
           clear S2 E2 hby2 ho2 p0 p3 p4 f3 f4 hX
           go_upto_region 13 with (fail)
           refine wp_forget (fun V=>Stp M P w1 V d t1 {t1 with pm:=updP t1.pm id (some {x with bb:=some (B,c,setB L off b),put:=false,zero:=false})}) S2'.out ?_
           intro V S3
           have HS3:=hJ S3
           have q0:=S3.at_.q0
           have HF:=hJ (Find_any S3.at_.pool (int_wf hid))
           unfold findV findI at HF
           rw [show ({t1 with pm:=updP t1.pm id (some {x with bb:=some (B,c,setB L off b),put:=false,zero:=false})}:PSt σ).g id=some j from HG.out] at HF
           simp only [Option.isSome_some] at HF
           obtain ⟨hj,hu,hkey⟩:=pi_key S3.inv (show ({t1 with pm:=updP t1.pm id (some {x with bb:=some (B,c,setB L off b),put:=false,zero:=false})}:PSt σ).g id=some j from HG.out)
           have HT:=hJ (Touch_yes S3.at_.pool j true hj hu)
           clear S3 S2' p3' p4' f3' f4' hXB hu hkey
           go_wp2_with fail
           refine HF.out.mono ?_
           rintro e w3 ⟨rfl,rfl⟩
           go_wp2_with fail
           refine HT.out.mono ?_
           rintro e w4 ⟨rfl,⟨c5,hp5⟩,ho5⟩
           have HE:=hJ (stp_touch (f:={t1.F j with ref:=true,dirty:=(t1.F j).dirty||true}) HS3.out.inv HS3.out.at_ rfl rfl rfl hp5 ho5)
           clear hp5 ho5 HT HF q0
           go_wp2
           go_ret
           have HEV:=Ev.more (k2:=1) hK (Ev.trans' (k1:=1+0) (k2:=0) (E.out.trans E2'.out) (ev_touch (F':=putF t1.F j {t1.F j with ref:=true,dirty:=(t1.F j).dirty||true}) (c':=c5)) rfl) (by omega)
           exact ⟨_,0,rfl,(S.out.trans HS3.out).trans HE.out,N.out.trans ⟨rfl,rfl,rfl⟩,.inl ⟨rfl,HEV,HB.out,x,{x with bb:=some (B,c,setB L off b),put:=false,zero:=false},L,HX.out,HC.out,HL.out,updP_same _ _ _,rfl,rfl,rfl⟩⟩
     · rcases hcs with ⟨rfl,hr,_⟩|⟨rfl,hr,_⟩
       · have HR:=hJ hr
         have he0:=P.ez0
         clear hr
         go_wp2
         go_ret
         exact ⟨t1,P.ez,rfl,S.out,N.out,.inr ⟨E.out,.inr (.inr ⟨HB.out,x,HX.out,.inl ⟨rfl,HR.out⟩⟩)⟩⟩
       · have HR:=hJ hr
         clear hr
         go_wp2
         go_ret
         exact ⟨t1,20,rfl,S.out,N.out,.inr ⟨E.out,.inr (.inr ⟨HB.out,x,HX.out,.inr ⟨rfl,HR.out⟩⟩)⟩⟩
end
set_option maxRecDepth 100000
set_option maxHeartbeats 4000000
section
variable {σ:Type} {K:SnkF σ} {M:Snk K} {P:PSnk K} {w w' w1 w2 w3 w4 w5:World} {d:PD} {t t' t1 t2:PSt σ} {id:Int} {x:Pg} {j:Nat} {z k1 k2:Nat} {E:Int→Prop}
theorem pm_next (hi:PI P d t) (h0:t.hole=none):t.pm t.nx=none:=by
 cases hx:t.pm t.nx with
 |none=>rfl
 | some x=>
   have:=(hi.ids _ x hx).2.2 rfl
   rw [h0] at this
   cases this
theorem pi_virt (hi:PI P d t) (h0:t.hole=none) (hbb:x.bb=none) (hp:x.put=true→x.zero=true→P.rd t.s x.at_=some (zeros d.z)) (hz:x.put=true∨x.zero=true):PI P d {t with pm:=updP t.pm t.nx (some x),hole:=some (t.nx:Int)}:=by
 have hn:=pm_next hi h0
 have hpm:∀i y,updP t.pm t.nx (some x) i=some y→(i=t.nx∧y=x)∨(i≠t.nx∧t.pm i=some y):=fun i y e=>by
  unfold updP at e
  split at e
  · rename_i h;exact .inl ⟨h,(Option.some.inj e).symm⟩
  · rename_i h;exact .inr ⟨h,e⟩
 refine ⟨hi.inn,hi.kv,hi.pz,fun i k hik=>?_,fun i y hy hb=>?_,fun i y hy hpp=>?_,fun i y B c L hy hzz hb=>?_,fun i y hy h1 h2=>?_,fun i y hy=>?_,fun i e=>(Option.some.inj e).symm,hi.nx1⟩
 · obtain ⟨y,f1,f2⟩:=hi.res i k hik
   exact ⟨y,(updP_ne _ _ (fun e=>by rw [e,hn] at f1;cases f1)).trans f1,f2⟩
 · rcases hpm i y hy with ⟨rfl,rfl⟩|⟨e,f⟩
   · exact absurd hbb hb
   · exact hi.has i y f hb
 · rcases hpm i y hy with ⟨rfl,rfl⟩|⟨e,f⟩
   · exact ⟨(fun B c L e=>by rw [hbb] at e;cases e),fun hzz=>hp hpp hzz⟩
   · exact hi.put i y f hpp
 · rcases hpm i y hy with ⟨rfl,rfl⟩|⟨e,f⟩
   · rw [hbb] at hb;cases hb
   · exact hi.zer i y B c L f hzz hb
 · rcases hpm i y hy with ⟨rfl,rfl⟩|⟨e,f⟩
   · rcases hz with hz|hz
     · rw [hz] at h1;cases h1
     · rw [hz] at h2;cases h2
   · exact hi.dty i y f h1 h2
 · rcases hpm i y hy with ⟨rfl,rfl⟩|⟨e,f⟩
   · exact ⟨by have:=hi.nx1;omega,Int.le_refl _,fun _=>rfl⟩
   · obtain ⟨g1,g2,g3⟩:=hi.ids i y f
     exact ⟨g1,g2,fun e2=>by rw [e2]⟩
theorem pi_add (hi:PI P d t) {c':Nat}:PI P d {t with nx:=t.nx+1,hole:=none,cm:=c'}:=by
 refine ⟨hi.inn,hi.kv,hi.pz,hi.res,hi.has,hi.put,hi.zer,hi.dty,fun i y hy=>?_,(fun i e=>by cases e),Nat.le_add_left _ _⟩
 obtain ⟨g1,g2,g3⟩:=hi.ids i y hy
 refine ⟨g1,by show i≤((t.nx+1:Nat):Int);omega,fun e=>?_⟩
 have e':i=((t.nx+1:Nat):Int):=e
 omega
def AdPost (M:Snk K) (P:PSnk K) (w:World) (d:PD) (t:PSt σ) (e:Ending) (w':World):Prop:=
 ∃c':Nat,e=.returned (.int .i64 (t.nx:Nat))∧Stp M P w w' d t {t with nx:=t.nx+1,hole:=none,cm:=t.cm+1}
theorem add_any (h:PgrAt M w d t) (hi:PI P d t) (hh:t.hole=some (t.nx:Int)) (hx:t.pm t.nx=some x) (hn:t.nx<4611686018427387904):
 Calls Tryz.prog 146 #[.pointer (some ⟨d.Q,0,none⟩),.pointer (some ⟨x.X,0,none⟩)] w (AdPost M P w d t):=by
 obtain ⟨h2,ho2⟩:=h.setNx (t.nx+1)
 have hkey:keyOf Tryz.prog 3 (.int .i64 (t.nx:Nat))=some _:=keyOf_int_mk Tryz.underlying3 (int_wf (k:=(t.nx:Int)) (by omega))
 obtain ⟨w3,hrun,hm,ho3⟩:=MapIs.put h2.mp intKeyed Tryz.underlying142 (val:=.pointer (some ⟨x.X,0,none⟩)) hkey
 have hvis:visP t.pm t.hole t.nx=none:=by unfold visP;rw [if_pos hh.symm]
 have hm2:MapIs Tryz.prog 3 w3 d.Mm (pgF (visP t.pm none)) (t.cm+1):=by
  have e1:(pgF (visP t.pm t.hole) (.int .i64 (t.nx:Nat))).isSome=false:=by rw [pgF_at,hvis];rfl
  have e2:putK (pgF (visP t.pm t.hole)) (.int .i64 (t.nx:Nat)) (.pointer (some ⟨x.X,0,none⟩))=pgF (visP t.pm none):=by
   rw [pgF_put]
   refine pgF_congr fun k=>?_
   unfold updP visP
   rw [hh,if_neg (show ¬some k=none from fun e=>by cases e)]
   by_cases hk:k=t.nx
   · rw [if_pos hk,hk,hx]
   · rw [if_neg hk,if_neg (fun e=>hk (Option.some.inj e))]
  have hm':=hm
  simp only at hm'
  rw [e1,e2] at hm'
  exact hm'
 have h3:=h2.setMap ho3 hm2 (fun k x=>id)
 have HE:Hid (AdPost M P w d t (.returned (.int .i64 (t.nx:Nat))) w3):=hJ ⟨0,rfl,h3,pi_add hi,(ho2.mono (S':=Own d t) (fun k e=>by rw [e];exact .inl (.inl rfl))).trans (ho3.mono fun k e=>by rw [e];exact .inl (.inr (.inr (.inr (.inr (.inl rfl)))))),fun k hk=>.inl hk⟩
 have q5:=h.q5
 have q4:=h.q4
 have f5:=h.qz 5
 have lQ:=h.ltQ
 have hw1:IntKind.i64.wrap ((t.nx:Int)+1)=(t.nx:Int)+1:=IntWalk.i64_in _ (by omega)
 have hnx:((t.nx+1:Nat):Int)=(t.nx:Int)+1:=by omega
 rw [hnx] at hrun
 clear h hi hh hx h2 ho2 hm hm2 h3 ho3 hkey hvis hnx
 go_enter Tryz.func146,Tryz.ntmps146
 go_wp2
 go_ret
 exact HE.out
end
set_option maxRecDepth 100000
set_option maxHeartbeats 4000000
section
variable {σ:Type} {K:SnkF σ} {M:Snk K} {P:PSnk K} {w w' w1 w2 w3 w4 w5:World} {d:PD} {t t' t1 t2:PSt σ} {id:Int} {x:Pg} {j:Nat} {z k1 k2:Nat} {E:Int→Prop}
theorem PgAt.new (w:World) (z:Nat) (a:Int×Int) (p o:Bool) (u:Int):PgAt (w.alloc (.cells #[.slice none 0 0,.int .i64 a.1,.int .i64 a.2,.bool p,.bool o,.int .i64 u] 151)) z ⟨w.heap.size,none,a,p,o,u⟩:=by
 have hc:∀k v,(#[.slice none 0 0,.int .i64 a.1,.int .i64 a.2,.bool p,.bool o,.int .i64 u]:Array Value)[k]? =some v→(w.alloc (.cells #[.slice none 0 0,.int .i64 a.1,.int .i64 a.2,.bool p,.bool o,.int .i64 u] 151)).cell? ⟨w.heap.size,k,none⟩=some v:=fun k v hv=>by
  rw [cell_of_row _ _ _ _ _ _ (heap_alloc_new w _)];exact hv
 refine ⟨hc 0 _ rfl,hc 1 _ rfl,hc 2 _ rfl,hc 3 _ rfl,hc 4 _ rfl,hc 5 _ rfl,fun k=>?_,fun B c L e=>by cases e⟩
 unfold World.frozen?
 rw [heap_alloc_new]
 simp
theorem virt_stp (hK:K.Good) (h:PgrAt M w d t) (hi:PI P d t) (h0:t.hole=none) (hb:Below w.heap.size w w1) (hp:PgAt w1 d.z x) (hbb:x.bb=none) (hX:w.heap.size≤x.X) (hpz:x.put=true→x.zero=true→P.rd t.s x.at_=some (zeros d.z)) (hz:x.put=true∨x.zero=true):
 Stp M P w w1 d t {t with pm:=updP t.pm t.nx (some x),hole:=some (t.nx:Int)}∧Ev P d.z 0 (· =(t.nx:Int)) t {t with pm:=updP t.pm t.nx (some x),hole:=some (t.nx:Int)}:=by
 have hn:=pm_next hi h0
 have hnew:∀k,x.blk k→¬ownP d t.pm k∧¬t.O k:=fun k hk=>by
  rcases hk with rfl|⟨c,L,e⟩
  · exact own_new h hX
  · rw [hbb] at e;cases e
 refine ⟨⟨(h.up hb).virt h0 hn hp hnew,pi_virt hi h0 hbb hpz hz,Off.of_below hb,fun k hk=>?_⟩,fun i he hi=>(updP_ne _ _ he).trans hi,fun i y he hy=>⟨y,(updP_ne _ _ he).trans hy,rfl,rfl,rfl,fun h=>⟨h,rfl⟩,fun L hL=>hL⟩,SubR.refl _,Nat.le_refl _,fun _=>rfl,fun h=>h,fun n h=>h⟩
 rcases hk with hk|hk
 · rcases hk with e|e|e|e|e|⟨i,y,hy,hb⟩
   · exact .inl (.inl (.inl e))
   · exact .inl (.inl (.inr (.inl e)))
   · exact .inl (.inl (.inr (.inr (.inl e))))
   · exact .inl (.inl (.inr (.inr (.inr (.inl e)))))
   · exact .inl (.inl (.inr (.inr (.inr (.inr (.inl e))))))
   · have hy':(if i=(t.nx:Int) then some x else t.pm i)=some y:=hy
     split at hy'
     · cases hy'
       rcases hb with rfl|⟨c,L,e⟩
       · exact .inr hX
       · rw [hbb] at e;cases e
     · exact .inl (.inl (.inr (.inr (.inr (.inr (.inr ⟨i,y,hy',hb⟩))))))
 · exact .inl (.inr hk)
structure Mk {σ:Type} {K:SnkF σ} (P:PSnk K) (z k:Nat) (t t':PSt σ) (y:Pg):Prop where
 ev:Ev P z k (· =(t.nx:Int)) t t'
 pg:t'.pm t.nx=some y
 nx:t'.nx=t.nx+1
 hole:t'.hole=none
 cm:t'.cm=t.cm+1
def MkPost (M:Snk K) (P:PSnk K) (w:World) (d:PD) (t:PSt σ) (a:Int×Int) (p o:Bool) (e:Ending) (w':World):Prop:=
 ∃t' y,e=.returned (.int .i64 (t.nx:Nat))∧Stp M P w w' d t t'∧Mk P d.z 0 t t' y∧y.bb=none∧y.at_=a∧y.put=p∧y.zero=o∧y.uses=0∧t'.s=t.s
theorem mk_done (hK:K.Good) (h:PgrAt M w d t) (hi:PI P d t) (h0:t.hole=none) (hn:t.nx<4611686018427387904) (a:Int×Int) (p o:Bool) (hb:Below w.heap.size w w1) (hpz:p=true→o=true→P.rd t.s a=some (zeros d.z)) (hz:p=true∨o=true):
 Calls Tryz.prog 146 #[.pointer (some ⟨d.Q,0,none⟩),.pointer (some ⟨w1.heap.size,0,none⟩)] (w1.alloc (.cells #[.slice none 0 0,.int .i64 a.1,.int .i64 a.2,.bool p,.bool o,.int .i64 0] 151)) (MkPost M P w d t a p o):=by
 obtain ⟨S,E⟩:=virt_stp (x:=⟨w1.heap.size,none,a,p,o,0⟩) hK h hi h0 (hb.alloc hb.size _) (PgAt.new w1 d.z a p o 0) rfl hb.size hpz hz
 refine (add_any S.at_ S.inv rfl (updP_same _ _ _) hn).mono ?_
 rintro e w' ⟨_,rfl,S2⟩
 exact ⟨_,⟨w1.heap.size,none,a,p,o,0⟩,rfl,S.trans S2,⟨⟨E.no,E.pg,E.sub,E.cnt,E.keep,E.room,E.rdy⟩,updP_same _ _ _,rfl,rfl,rfl⟩,rfl,rfl,rfl,rfl,rfl,rfl⟩
theorem make_any (hK:K.Good) (h:PgrAt M w d t) (hi:PI P d t) (h0:t.hole=none) (hn:t.nx<4611686018427387904):
 Calls Tryz.prog 105 #[.pointer (some ⟨d.Q,0,none⟩)] w (MkPost M P w d t (0,0) false true):=by
 have HA:=hJ (mk_done hK h hi h0 hn (0,0) false true jB (fun e=>by cases e) (.inr rfl))
 clear h hi h0
 go_enter Tryz.func105,Tryz.ntmps105
 go_wp2_with fail
 refine HA.out.mono ?_
 rintro e w1 ⟨t1,y,rfl,h1⟩
 have H1:=hJ h1
 clear h1 HA
 go_wp2
 go_ret
 exact ⟨t1,y,rfl,H1.out⟩
end
set_option maxRecDepth 100000
set_option maxHeartbeats 4000000
section
variable {σ:Type} {K:SnkF σ} {M:Snk K} {P:PSnk K} {w w' w1 w2 w3 w4 w5:World} {d:PD} {t t' t1 t2:PSt σ} {id:Int} {x y:Pg} {j:Nat} {z k1 k2:Nat} {E:Int→Prop}
end
set_option maxRecDepth 100000
set_option maxHeartbeats 4000000
def DrPost {σ:Type} {K:SnkF σ} (M:Snk K) (P:PSnk K) (w:World) (d:PD) (t:PSt σ) (id:Int) (e:Ending) (w':World):Prop:=
 ∃t' er,e=.returned (.int .i64 er)∧Stp M P w w' d t t'∧((er=2∧t.pm id=none∧t'=t)∨(er=0∧t.pm id≠none∧t'.pm=updP t.pm id none∧t'.cm=t.cm-1∧t'.nx=t.nx∧t'.hole=t.hole∧t'.s=t.s))
section
variable {σ:Type} {K:SnkF σ} {M:Snk K} {P:PSnk K} {w w' w1 w2 w3 w4 w5:World} {d:PD} {t t' t1 t2:PSt σ} {id:Int} {x y:Pg} {j:Nat} {z k1 k2:Nat} {E:Int→Prop}
theorem own_del {pm:Int→Option Pg} {id:Int} {k:Nat} (hk:ownP d (updP pm id none) k):ownP d pm k:=by
 rcases hk with e|e|e|e|e|⟨i,y,hy,hb⟩
 · exact .inl e
 · exact .inr (.inl e)
 · exact .inr (.inr (.inl e))
 · exact .inr (.inr (.inr (.inl e)))
 · exact .inr (.inr (.inr (.inr (.inl e))))
 · have hy':(if i=id then none else pm i)=some y:=hy
   split at hy'
   · cases hy'
   · exact .inr (.inr (.inr (.inr (.inr ⟨i,y,hy',hb⟩))))
theorem dr_done (hi:PI P d t) (h0:t.hole=none) (hx:t.pm id=some x) {F':Nat→Fr} {c' c'':Nat} (hkv:KInv d.n F' (upd t.g id none)) (hpz:∀j,j<d.n→(F' j).pins=0) (h2:PgrAt M w2 d {t with F:=F',g:=upd t.g id none,c:=c'}) (ho:Off (Own d t) w w2)
 (hm:MapIs Tryz.prog 3 w3 d.Mm (pgF (updP t.pm id none)) c'') (ho3:Off (· =d.Mm) w2 w3):
 Stp M P w w3 d t {t with F:=F',g:=upd t.g id none,c:=c',pm:=updP t.pm id none,hole:=none,cm:=c''}:=by
 have hsub:∀k y,updP t.pm id none k=some y→k≠id∧t.pm k=some y:=fun k y e=>by
  unfold updP at e
  split at e
  · cases e
  · rename_i h;exact ⟨h,e⟩
 have hv:visP (updP t.pm id none) none=updP t.pm id none:=by
  funext k
  unfold visP
  rw [if_neg (fun e=>by cases e)]
 have h3:=h2.setMap (pm':=updP t.pm id none) (hole':=none) (c':=c'') ho3 (by rw [hv];exact hm) (fun k y e=>(hsub k y e).2)
 refine ⟨h3,⟨hi.inn,hkv,hpz,fun i k hik=>?_,fun i y hy hb=>?_,fun i y hy hpp=>?_,fun i y B c L hy hzz hb=>?_,fun i y hy h1 h2=>?_,fun i y hy=>?_,(fun i e=>by cases e),hi.nx1⟩,ho.trans (ho3.mono fun k e=>by rw [e];exact .inl (.inr (.inr (.inr (.inr (.inl rfl)))))),fun k hk=>.inl ?_⟩
 · have hik':upd t.g id none i=some k:=hik
   unfold upd at hik'
   split at hik'
   · cases hik'
   · rename_i hne
     obtain ⟨y,f1,f2⟩:=hi.res i k hik'
     exact ⟨y,(updP_ne _ _ hne).trans f1,f2⟩
 · show upd t.g id none i≠none
   unfold upd
   rw [if_neg (hsub i y hy).1]
   exact hi.has i y (hsub i y hy).2 hb
 · exact hi.put i y (hsub i y hy).2 hpp
 · exact hi.zer i y B c L (hsub i y hy).2 hzz hb
 · exact hi.dty i y (hsub i y hy).2 h1 h2
 · obtain ⟨g1,g2,g3⟩:=hi.ids i y (hsub i y hy).2
   exact ⟨g1,g2,fun e=>by have:=g3 e;rw [h0] at this;cases this⟩
 · rcases hk with hk|hk
   · exact .inl (own_del hk)
   · exact .inr hk
theorem dr_map (h:PgrAt M w d t) (h0:t.hole=none) (hx:t.pm id=some x) (hid: -9223372036854775808≤id∧id≤9223372036854775807) (ty:TypeId):
 ∃w',(Builtin.delete_ #[142,3] ty #[.map (some d.Mm),.int .i64 id]).run Tryz.prog w=.ok (.tuple #[]) w'∧MapIs Tryz.prog 3 w' d.Mm (pgF (updP t.pm id none)) (t.cm-1)∧Off (· =d.Mm) w w':=by
 obtain ⟨w',h1,h2,h3⟩:=MapIs.del h.mp intKeyed Tryz.underlying142 (keyOf_int_mk Tryz.underlying3 (int_wf hid)) ty
 have hv:visP t.pm t.hole=t.pm:=funext fun k=>vis_none h0 k
 have e1:(pgF (visP t.pm t.hole) (.int .i64 id)).isSome=true:=by rw [hv,pgF_at,hx];rfl
 rw [e1,if_pos rfl,hv,pgF_del] at h2
 exact ⟨w',h1,h2,h3⟩
theorem upd_none {g:Int→Option Nat} (h:g id=none):upd g id none=g:=by
 funext k
 unfold upd
 split
 · rename_i e;rw [e,h]
 · rfl
theorem drop_any (h:PgrAt M w d t) (hi:PI P d t) (h0:t.hole=none) (hid: -9223372036854775808≤id∧id≤9223372036854775807):
 Calls Tryz.prog 64 #[.pointer (some ⟨d.Q,0,none⟩),.int .i64 id] w (DrPost M P w d t id):=by
 have hlk:=h.look hid
 rw [vis_none h0] at hlk
 have HF:=hJ (Find_any h.pool (int_wf hid))
 have H:=hJ h
 have HI:=hJ hi
 have H0:=hJ h0
 have q0:=h.q0
 have q4:=h.q4
 cases hx:t.pm id with
 | none=>
   rw [hx] at hlk
   have HX:=hJ hx
   simp only [pgP,Option.map_none] at hlk
   clear h hi h0 hx
   go_enter Tryz.func64,Tryz.ntmps64
   go_wp2
   go_ret
   exact ⟨t,2,rfl,Stp.refl H.out HI.out,.inl ⟨rfl,HX.out,rfl⟩⟩
 | some x=>
   rw [hx] at hlk
   have HX:=hJ hx
   simp only [pgP,Option.map_some] at hlk
   cases hg:t.g id with
   | none=>
     obtain ⟨w3,hrun,hm3,ho3⟩:=dr_map h h0 hx hid 0
     have hug:=upd_none hg
     have HE:Hid (DrPost M P w d t id (.returned (.int .i64 0)) w3):=by
      have:=dr_done (F':=t.F) (c':=t.c) hi h0 hx (by rw [hug];exact hi.kv) hi.pz (by rw [hug];exact h) (Off.refl _ _) hm3 ho3
      exact hJ ⟨_,0,rfl,this,.inr ⟨rfl,by rw [hx];simp,rfl,rfl,rfl,h0.symm,rfl⟩⟩
     unfold findV findI at HF
     rw [hg] at HF
     simp only [Option.isSome_none] at HF
     clear h hi h0 hx hg hug hm3 ho3
     go_enter Tryz.func64,Tryz.ntmps64
     go_wp2_with fail
     refine HF.out.mono ?_
     rintro e w1 ⟨rfl,rfl⟩
     go_wp2_with (at_delete;go_must (refine wpList_delete_run rfl (.tmp 33) (.tmp 34) 142 3 rfl _ _ rfl rfl hrun ?_))
     clear hrun
     go_wp2
     go_ret
     exact HE.out
   | some j=>
     obtain ⟨hj,hu,hkey⟩:=pi_key hi hg
     have HD:=hJ (Drop_yes h.pool j hj hu (by rw [hi.pz j hj];omega))
     have HG:=hJ (show j<d.n∧(t.F j).used=true∧(t.F j).key=id from ⟨hj,hu,hkey⟩)
     unfold findV findI at HF
     rw [hg] at HF
     simp only [Option.isSome_some] at HF
     clear h hi h0 hx hg hj hu hkey
     go_enter Tryz.func64,Tryz.ntmps64
     go_wp2_with fail
     refine HF.out.mono ?_
     rintro e w1 ⟨rfl,rfl⟩
     go_wp2_with fail
     refine HD.out.mono ?_
     rintro e w1 ⟨rfl,⟨c5,hp5⟩,ho5⟩
     rw [HG.out.2.2] at hp5
     have h2:=H.out.setPool ho5 hp5
     obtain ⟨w3,hrun,hm3,ho3⟩:=dr_map h2 H0.out HX.out hid 0
     have q4':=h2.q4
     have HE:Hid (DrPost M P w d t id (.returned (.int .i64 0)) w3):=by
      have hkv:KInv d.n (putF t.F j Fr.zero) (upd t.g id none):=⟨by have:=Good.drop HI.out.kv.good HG.out.1 HG.out.2.1;rw [HG.out.2.2] at this;exact this,fun i hin=>by
       unfold putF
       split
       · simp [Fr.zero]
       · exact HI.out.kv.pins i hin⟩
      have hpz:∀i,i<d.n→(putF t.F j Fr.zero i).pins=0:=fun i hin=>by
       unfold putF
       split
       · rfl
       · exact HI.out.pz i hin
      have:=dr_done (F':=putF t.F j Fr.zero) (c':=c5) HI.out H0.out HX.out hkv hpz h2 (ho5.mono fun k hk=>by
       rcases hk with rfl|rfl|rfl
       · exact .inl (.inr (.inl rfl))
       · exact .inl (.inr (.inr (.inl rfl)))
       · exact .inl (.inr (.inr (.inr (.inl rfl))))) hm3 ho3
      exact hJ ⟨_,0,rfl,this,.inr ⟨rfl,by rw [HX.out];simp,rfl,rfl,rfl,H0.out.symm,rfl⟩⟩
     clear h2 hm3 ho3 hp5 ho5 q0 q4 HF HD hlk
     go_wp2_with (at_delete;go_must (refine wpList_delete_run rfl (.tmp 33) (.tmp 34) 142 3 rfl _ _ rfl rfl hrun ?_))
     clear hrun q4'
     go_wp2
     go_ret
     exact HE.out
end
set_option maxRecDepth 100000
set_option maxHeartbeats 4000000
section
variable {σ:Type} {K:SnkF σ} {M:Snk K} {P:PSnk K} {w w' w1 w2 w3 w4 w5:World} {d:PD} {t t' t1 t2:PSt σ} {id:Int} {x y:Pg} {j:Nat} {z k1 k2:Nat} {E:Int→Prop}
end
end Go.Proofs.YtlhfjaagkgengaaGreat
