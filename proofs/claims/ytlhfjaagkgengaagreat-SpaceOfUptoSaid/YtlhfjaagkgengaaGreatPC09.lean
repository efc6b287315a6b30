/- A pager: save. A pager: save, walked. A pager: out. A pager: bring, plainly. -/
import Derived.Test.YtlhfjaagkgengaaGreatPC08
namespace Go.Proofs.YtlhfjaagkgengaaGreat
set_option maxRecDepth 100000
set_option maxHeartbeats 4000000
open Go.RowKit Go.Maps
set_option linter.unusedVariables false
set_option linter.unusedSimpArgs false
def SvPost {σ:Type} {K:SnkF σ} {M:Snk K} (P:PSnk K) (w:World) (d:PD) (t:PSt σ) (id:Int) (x:Pg) (e:Ending) (w':World):Prop:=
 ∃ t' er,e=.returned (.int .i64 er)∧Stp M P w w' d t t'∧Ev P d.z 1 none9 t t'∧Num t t'∧t'.F=t.F∧t'.g=t.g∧t'.h=t.h∧
   ((er=0∧∃a,t'.pm=updP t.pm id (some {x with at_:=a,put:=true})∧(∀L,cont (P.rd t.s) d.z x=some L→P.rd t'.s a=some L)∧(x.put=true→a=x.at_∧P.cnt t'.s=P.cnt t.s))∨(er=P.ez∧P.room t.s=0∧t'.pm=t.pm))
section
variable {σ:Type} {K:SnkF σ} {M:Snk K} {P:PSnk K} {w w' w1 w2:World} {d:PD} {t t' t1 t2:PSt σ} {id:Int} {x:Pg}
theorem updP_same (m:Int→Option Pg) (i:Int) (x:Option Pg):updP m i x i=x:=by unfold updP;rw [if_pos rfl]
theorem updP_ne (m:Int→Option Pg) (x:Option Pg) {i j:Int} (h:j≠i):updP m i x j=m j:=by unfold updP;rw [if_neg h]
theorem updP_self (hx:t.pm id=some x):updP t.pm id (some x)=t.pm:=by
 funext k
 unfold updP
 split
 · rename_i h;rw [h,hx]
 · rfl
theorem sv_has (hK:K.Good) (h:PgrAt M w d t) (hi:PI P d t) (hx:t.pm id=some x) (hp:x.put=true):SvPost (M:=M) P w d t id x (.returned (.int .i64 0)) w:=by
 refine ⟨t,0,rfl,Stp.refl h hi,Ev.refl hK t,Num.refl t,rfl,rfl,rfl,.inl ⟨rfl,x.at_,?_,fun L hL=>?_,fun _=>⟨rfl,rfl⟩⟩⟩
 · have e:({x with at_:=x.at_,put:=true}:Pg)=x:=by
    cases x
    simp at hp
    simp [hp]
   rw [e,updP_self hx]
 · obtain ⟨h1,h2⟩:=hi.put id x hx hp
   unfold cont at hL
   cases hb:x.bb with
   | some y=>
     obtain ⟨B,c,L'⟩:=y
     rw [hb] at hL
     simp at hL
     rw [←hL]
     exact h1 B c L' hb
   | none=>
     rw [hb] at hL
     simp only at hL
     cases hz:x.zero with
     | true=>
       rw [hz] at hL
       simp at hL
       rw [←hL]
       exact h2 hz
     | false=>
       rw [hz] at hL
       cases hr:P.rd t.s x.at_ with
       |none=>rw [hr] at hL;simp at hL
       | some b=>
         rw [hr] at hL
         simp at hL
         rw [hL.2]
theorem sv_full (hi:PI P d t) {s1 s2:σ} (h:PgrAt M w1 d {t with s:=s1}) (ho:Off t.O w w1) (hs:SkSame P t.s s1) (hr:P.room s1=0) {b:Bytes} {O':Nat→Prop} (hput:(K.put s1 b).1=s2) (ha:M.At w2 O' s2) (hof:Off t.O w1 w2) (hO:∀k,O' k→t.O k∨w1.heap.size≤k) (h2:s2=s1) (hK:K.Good):
 SvPost (M:=M) P w d t id x (.returned (.int .i64 P.ez)) w2:=by
 subst h2
 have h3:PgrAt M w2 d {t with O:=O',s:=s2}:=h.off hof (fun k hk=>h.nO k hk) ha hO
 obtain ⟨q1,q2⟩:=stp_sink (P:=P) (z:=d.z) (E:=none9) hi h ho hs
 refine ⟨{t with O:=O',s:=s2},P.ez,rfl,⟨h3,⟨q1.inv.inn,hi.kv,hi.pz,hi.res,hi.has,q1.inv.put,hi.zer,hi.dty,hi.ids,hi.hol,hi.nx1⟩,(ho.trans hof).mono fun k e=>.inr e,fun k hk=>?_⟩,⟨q2.no,q2.pg,q2.sub,by have:=q2.cnt;show P.cnt s2≤_;simp at this;omega,q2.keep,q2.room,fun n hn=>hs.rdy n (hK.mono _ _ _ hn (by omega))⟩,⟨rfl,rfl,rfl⟩,rfl,rfl,rfl,.inr ⟨rfl,by rw [←hs.room];exact hr,rfl⟩⟩
 rcases hk with hk|hk
 · exact .inl (.inl hk)
 · rcases hO k hk with e|e
   · exact .inl (.inr e)
   · have:=ho.size;exact .inr (by omega)
theorem sv_took (hK:K.Good) (hi:PI P d t) (hx:t.pm id=some x) (hp:x.put=false) {s1:σ} (h:PgrAt M w1 d {t with s:=s1}) (ho:Off t.O w w1) (hs:SkSame P t.s s1) (hr:P.room s1≠0) (hrd:K.Rdy t.s 1) {b:Bytes} (hb:cont (P.rd t.s) d.z x=some b) (hl:b.length≤5000) {O':Nat→Prop} {w3 w4:World}
 (ha:M.At w3 O' (K.put s1 b).1) (hof:Off t.O w1 w3) (hO:∀k,O' k→t.O k∨w1.heap.size≤k)
 (hp4:PgAt w4 d.z {x with at_:=(K.put s1 b).2.1,put:=true}) (ho4:Off x.blk w3 w4):
 SvPost (M:=M) P w d t id x (.returned (.int .i64 0)) w4:=by
 have h3:PgrAt M w3 d {t with O:=O',s:=(K.put s1 b).1}:=h.off hof (fun k hk=>h.nO k hk) ha hO
 obtain ⟨q1,q2⟩:=stp_sink (P:=P) (z:=d.z) (E:=none9) hi h ho hs
 obtain ⟨p1,p2,p3,p4,p5,p6,p7⟩:=P.put s1 b hs.inn (hs.rdy _ hrd) hl hr
 have hsub:SubR (P.rd t.s) (P.rd (K.put s1 b).1):=by rw [←hs.rd];exact p5
 have h4:=h3.setPage (id:=id) (x:=x) (x':={x with at_:=(K.put s1 b).2.1,put:=true}) hx rfl (fun k hk=>.inl hk) ho4 hp4
 have hcz:x.zero=true→b=zeros d.z:=fun hz=>by
  unfold cont at hb
  cases hbb:x.bb with
  | some y=>
    obtain ⟨B,c,L⟩:=y
    rw [hbb] at hb
    simp at hb
    rw [←hb]
    exact hi.zer id x B c L hx hz hbb
  | none=>
    rw [hbb] at hb
    simp [hz] at hb
    exact hb.symm
 have hcb:∀B c L,x.bb=some (B,c,L)→b=L:=fun B c L e=>by
  unfold cont at hb
  rw [e] at hb
  simpa using hb.symm
 have hpm:∀i y,updP t.pm id (some {x with at_:=(K.put s1 b).2.1,put:=true}) i=some y→(i=id∧y={x with at_:=(K.put s1 b).2.1,put:=true})∨(i≠id∧t.pm i=some y):=fun i y e=>by
  unfold updP at e
  split at e
  · rename_i h;exact .inl ⟨h,(Option.some.inj e).symm⟩
  · rename_i h;exact .inr ⟨h,e⟩
 refine ⟨{t with O:=O',s:=(K.put s1 b).1,pm:=updP t.pm id (some {x with at_:=(K.put s1 b).2.1,put:=true})},0,rfl,⟨h4,?_,?_,?_⟩,?_,⟨rfl,rfl,rfl⟩,rfl,rfl,rfl,.inl ⟨rfl,(K.put s1 b).2.1,rfl,fun L hL=>?_,fun e=>by rw [hp] at e;cases e⟩⟩
 · refine ⟨p2,hi.kv,hi.pz,fun i j hg=>?_,fun i y hy hb=>?_,fun i y hy hpp=>?_,fun i y B c L hy hz hbb=>?_,fun i y hy h1 h2=>?_,fun i y hy=>?_,hi.hol,hi.nx1⟩
   · obtain ⟨y,e1,e2⟩:=hi.res i j hg
     by_cases hid:i=id
     · subst hid
       rw [hx] at e1
       cases e1
       exact ⟨{x with at_:=(K.put s1 b).2.1,put:=true},updP_same _ _ _,e2⟩
     · exact ⟨y,(updP_ne _ _ hid).trans e1,e2⟩
   · rcases hpm i y hy with ⟨rfl,rfl⟩|⟨e,e2⟩
     · exact hi.has i x hx hb
     · exact hi.has i y e2 hb
   · rcases hpm i y hy with ⟨rfl,rfl⟩|⟨e,e2⟩
     · exact ⟨fun B c L e=>by rw [←hcb B c L e];exact p3,fun hz=>by rw [←hcz hz];exact p3⟩
     · obtain ⟨f1,f2⟩:=hi.put i y e2 hpp
       exact ⟨fun B c L e=>hsub _ _ (f1 B c L e),fun hz=>hsub _ _ (f2 hz)⟩
   · rcases hpm i y hy with ⟨rfl,rfl⟩|⟨e,e2⟩
     · exact hi.zer i x B c L hx hz hbb
     · exact hi.zer i y B c L e2 hz hbb
   · rcases hpm i y hy with ⟨rfl,rfl⟩|⟨e,e2⟩
     · simp at h1
     · exact hi.dty i y e2 h1 h2
   · rcases hpm i y hy with ⟨rfl,rfl⟩|⟨e,e2⟩
     · exact hi.ids i x hx
     · exact hi.ids i y e2
 · exact ((ho.trans hof).mono fun k e=>Or.inr e).late ho4 (fun i hi2 e=>.inl (.inr (.inr (.inr (.inr (.inr ⟨id,x,hx,e⟩))))))
 · intro k hk
   rcases hk with hk|hk
   · rcases own_upd hx hk with e|e
     · exact .inl (.inl e)
     · exact .inl (.inl (.inr (.inr (.inr (.inr (.inr ⟨id,x,hx,e⟩))))))
   · rcases hO k hk with e|e
     · exact .inl (.inr e)
     · have:=ho.size;exact .inr (by omega)
 · refine ⟨fun i _ hn=>?_,fun i y _ hy=>?_,hsub,by show P.cnt (K.put s1 b).1≤_;rw [p6,hs.cnt];omega,fun hall=>?_,fun hr2=>?_,fun n hn=>hK.putR s1 b n (hs.rdy _ hn) hl⟩
   · show updP _ _ _ _=_
     unfold updP
     rw [if_neg (fun e=>by rw [e,hx] at hn;cases hn)]
     exact hn
   · by_cases hid:i=id
     · subst hid
       rw [hx] at hy
       cases hy
       refine ⟨{x with at_:=(K.put s1 b).2.1,put:=true},updP_same _ _ _,rfl,rfl,rfl,(fun e=>by rw [hp] at e;cases e),fun L hL=>?_⟩
       rw [hb] at hL
       cases hL
       unfold cont at hb ⊢
       cases hbb:x.bb with
       |some y=>rw [hbb] at hb;exact hb
       | none=>
         rw [hbb] at hb
         simp only at hb ⊢
         cases hz:x.zero with
         |true=>rw [hz] at hb;exact hb
         |false=>exact absurd hbb (hi.dty i x hx hp hz)
     · refine ⟨y,(updP_ne _ _ hid).trans hy,rfl,rfl,rfl,fun e=>⟨e,rfl⟩,fun L hL=>?_⟩
       exact cont_sub hsub hL
   · exact absurd (hall id x hx) (by rw [hp];exact Bool.false_ne_true)
   · show P.room (K.put s1 b).1<0
     rw [p7,hs.room,if_neg (by omega)]
     exact hr2
 · rw [hb] at hL
   cases hL
   exact p3
end
set_option maxRecDepth 100000
set_option maxHeartbeats 4000000
section
variable {σ:Type} {K:SnkF σ} {M:Snk K} {P:PSnk K} {w w' w1 w2:World} {d:PD} {t t' t1 t2:PSt σ} {id:Int} {x:Pg}
theorem ByAt.slA {z B c:Nat} {L:Bytes} (h:ByAt w z B c L):SlA w (.slice (some ⟨B,0,none⟩) z c) L:=⟨_,_,_,rfl,h.cap,h.sby,adr_some⟩
theorem PgAt.set {z k:Nat} {v:Value} {x':Pg} (h:PgAt w z x) (hX:x'.X=x.X) (e0:x'.bv=if k=0 then v else x.bv) (e1:Value.int .i64 x'.at_.1=if k=1 then v else .int .i64 x.at_.1) (e2:Value.int .i64 x'.at_.2=if k=2 then v else .int .i64 x.at_.2)
 (e3:Value.bool x'.put=if k=3 then v else .bool x.put) (e4:Value.bool x'.zero=if k=4 then v else .bool x.zero) (e5:Value.int .i64 x'.uses=if k=5 then v else .int .i64 x.uses)
 (hb:∀B c L,x'.bb=some (B,c,L)→ByAt (w.setCell ⟨x.X,k,none⟩ v) z B c L):PgAt (w.setCell ⟨x.X,k,none⟩ v) z x':=by
 have ck:∀j a b,w.cell? ⟨x.X,j,none⟩=some a→(b=if k=j then v else a)→(w.setCell ⟨x.X,k,none⟩ v).cell? ⟨x'.X,j,none⟩=some b:=fun j a b ha hb=>by
  rw [hX,hb]
  by_cases hk:k=j
  · rw [if_pos hk,hk]
    exact World.cell?_setCell_same _ _ _ ha
  · rw [if_neg hk,World.cell?_setCell_other _ _ _ _ (fun e=>by injection e with _ e2;omega)]
    exact ha
 exact ⟨ck 0 _ _ h.c0 e0,ck 1 _ _ h.c1 e1,ck 2 _ _ h.c2 e2,ck 3 _ _ h.c3 e3,ck 4 _ _ h.c4 e4,ck 5 _ _ h.c5 e5,fun j=>by rw [hX,World.frozen?_setCell];exact h.fz j,hb⟩
theorem PgAt.bsX {z k:Nat} {v:Value} (h:PgAt w z x) (hz:16≤z) {B c:Nat} {L:Bytes} (e:x.bb=some (B,c,L)):ByAt (w.setCell ⟨x.X,k,none⟩ v) z B c L:=
 (h.bs B c L e).off hz ((Off.refl (· =x.X) w).setCell (p:=⟨x.X,k,none⟩) rfl v) (h.self hz e)
theorem PgAt.setAt {z:Nat} (h:PgAt w z x) (hz:16≤z) (a:Int×Int):PgAt (((w.setCell ⟨x.X,1,none⟩ (.int .i64 a.1)).setCell ⟨x.X,2,none⟩ (.int .i64 a.2)).setCell ⟨x.X,3,none⟩ (.bool true)) z {x with at_:=a,put:=true}∧Off x.blk w (((w.setCell ⟨x.X,1,none⟩ (.int .i64 a.1)).setCell ⟨x.X,2,none⟩ (.int .i64 a.2)).setCell ⟨x.X,3,none⟩ (.bool true)):=by
 have h1:=h.set (k:=1) (v:=.int .i64 a.1) (x':={x with at_:=(a.1,x.at_.2)}) rfl rfl rfl rfl rfl rfl rfl (fun B c L e=>h.bsX hz e)
 have h2:=h1.set (k:=2) (v:=.int .i64 a.2) (x':={x with at_:=a}) rfl rfl rfl rfl rfl rfl rfl (fun B c L e=>h1.bsX hz e)
 have h3:=h2.set (k:=3) (v:=.bool true) (x':={x with at_:=a,put:=true}) rfl rfl rfl rfl rfl rfl rfl (fun B c L e=>h2.bsX hz e)
 exact ⟨h3,(((Off.refl x.blk w).setCell (p:=⟨x.X,1,none⟩) (.inl rfl) _).setCell (p:=⟨x.X,2,none⟩) (.inl rfl) _).setCell (p:=⟨x.X,3,none⟩) (.inl rfl) _⟩
theorem save_any (hK:K.Good) (hmi:P.Miss) (h:PgrAt M w d t) (hi:PI P d t) (hx:t.pm id=some x) (hrd:K.Rdy t.s 1):
 Calls Tryz.prog 141 #[.pointer (some ⟨d.Q,0,none⟩),.pointer (some ⟨x.X,0,none⟩)] w (SvPost (M:=M) P w d t id x):=by
 have H:=hJ h
 have HI:=hJ hi
 have HX:=hJ hx
 obtain ⟨hz1,hz2⟩:=h.zs
 have p3:=(h.pg id x hx).c3
 have HRD:=hJ hrd
 have HPK:=hJ (peek_any hK hmi h hx hi.inn)
 cases hp:x.put with
 | true=>
   rw [hp] at p3
   have HP:=hJ hp
   clear h hi hx hrd hp
   go_enter Tryz.func141,Tryz.ntmps141
   go_wp2
   go_ret
   exact sv_has hK H.out HI.out HX.out HP.out
 | false=>
   rw [hp] at p3
   have HP:=hJ hp
   clear h hi hx hrd hp
   go_enter Tryz.func141,Tryz.ntmps141
   go_wp2_with fail
   refine HPK.out.mono ?_
   rintro e w1 ⟨s1,v,er,rfl,h1,ho,hs,⟨L,hc,hl,rfl,B,c,rfl,hby,hB⟩|⟨hc,hbb,hz,rfl,rfl⟩⟩
   case inr=>exact absurd hbb (HI.out.dty id x HX.out HP.out hz)
   have H1:=hJ h1
   have HO:=hJ ho
   have HS:=hJ hs
   have HC:=hJ hc
   have HL:=hJ (show L.length≤5000 by omega)
   have HPU:=hJ (M.put h1.at_ (hs.rdy 1 HRD.out) hby.slA (by omega))
   have HPG:=hJ (h1.pg id x HX.out)
   have q3:=h1.q3
   have nP:=M.nilP
   have mP:=M.metP
   have eP:=M.entP
   have HFF:=hJ (P.full s1 L hs.inn)
   clear h1 ho hs hc hl hby p3 HPK
   go_wp2_with fail
   refine HPU.out.mono ?_
   rintro e w2 ⟨O',he,hA,hof,hO⟩
   unfold addrV at he
   subst he
   have HA:=hJ hA
   have HOF:=hJ hof
   have HO2:=hJ hO
   have hsz:=hof.size
   have lX:x.X<w2.heap.size:=Nat.lt_of_lt_of_le HPG.out.lt hsz
   clear hA hof hO q3 nP mP eP HPU
   by_cases hr:P.room s1=0
   · obtain ⟨e1,e2⟩:=HFF.out hr
     have HR:=hJ hr
     have he0:=P.ez0
     have HG:Hid (∀W,Below w2.heap.size w2 W→SvPost (M:=M) P w d t id x (.returned (.int .i64 P.ez)) W):=hJ fun W hb=>sv_full HI.out H1.out HO.out HS.out hr (b:=L) (O':=O') rfl (M.off HA.out (Off.of_below (S:=fun _=>False) hb) (fun _ h=>h.elim)) (HOF.out.step hb) HO2.out e2 hK
     rw [e1]
     have HE:=hJ e1
     clear e1 e2 hr HFF HA
     generalize (K.put s1 L).2.1=a
     go_upto_region 7 with (fail)
     refine wp_forget (fun W=>Below w2.heap.size w2 W) (by go_grown) ?_
     intro W hb
     have HB:=hJ hb
     clear hb
     go_wp2
     go_ret
     exact HG.out _ HB.out
   · obtain ⟨e1,_⟩:=P.put s1 L HS.out.inn (HS.out.rdy _ HRD.out) HL.out hr
     have HTK:Hid (∀W W',M.At W O' (K.put s1 L).1→Off t.O w1 W→PgAt W' d.z {x with at_:=(K.put s1 L).2.1,put:=true}→Off x.blk W W'→SvPost (M:=M) P w d t id x (.returned (.int .i64 0)) W'):=hJ fun W W' a1 a2 a3 a4=>sv_took hK HI.out HX.out HP.out H1.out HO.out HS.out hr HRD.out HC.out HL.out a1 a2 HO2.out a3 a4
     rw [e1]
     clear e1 hr HFF
     have HPG2:=hJ (HPG.out.off hz1 HOF.out (fun k hk e=>H1.out.nO k (.inr (.inr (.inr (.inr (.inr ⟨id,x,HX.out,hk⟩))))) e))
     generalize K.put s1 L=y at *
     obtain ⟨s2,⟨a0,a1⟩,er⟩:=y
     simp only at HTK HA ⊢
     go_upto_region 7 with (fail)
     refine wp_forget (fun W=>Below w2.heap.size w2 W∧BoxA W w2.heap.size (a0,a1)) ⟨by go_grown,?_⟩ ?_
     · exact BoxA.new w2 _ (a0,a1)
     rintro W ⟨hb,hbx⟩
     have HB:=hJ hb
     have HBX:=hJ hbx
     have b0:=hbx.1
     have b1:=hbx.2.1
     have c1:=(HPG2.out.off hz1 (Off.of_below (S:=fun _=>False) hb) (fun _ _ e=>e)).c1
     have c2:=(HPG2.out.off hz1 (Off.of_below (S:=fun _=>False) hb) (fun _ _ e=>e)).c2
     have c3:=(HPG2.out.off hz1 (Off.of_below (S:=fun _=>False) hb) (fun _ _ e=>e)).c3
     have f1:=(HPG2.out.off hz1 (Off.of_below (S:=fun _=>False) hb) (fun _ _ e=>e)).fz 1
     have f2:=(HPG2.out.off hz1 (Off.of_below (S:=fun _=>False) hb) (fun _ _ e=>e)).fz 2
     have f3:=(HPG2.out.off hz1 (Off.of_below (S:=fun _=>False) hb) (fun _ _ e=>e)).fz 3
     have lX2:x.X<W.heap.size:=Nat.lt_of_lt_of_le lX hb.size
     clear hb hbx
     go_wp2
     go_ret
     obtain ⟨g1,g2⟩:=(HPG2.out.off hz1 (Off.of_below (S:=fun _=>False) HB.out) (fun _ _ e=>e)).setAt hz1 (a0,a1)
     exact HTK.out W _ (M.off HA.out (Off.of_below (S:=fun _=>False) HB.out) (fun _ h=>h.elim)) (HOF.out.step HB.out) g1 g2
end
set_option maxRecDepth 100000
set_option maxHeartbeats 4000000
theorem zeroPage (w:World):(zeroValue 138).run Tryz.prog w=.ok (.pointer none) w:=by kernel_rfl
def pgP (x:Option Pg):Value:=.pointer (x.map fun x=>⟨x.X,0,none⟩)
def OutPost {σ:Type} {K:SnkF σ} {M:Snk K} (P:PSnk K) (w:World) (d:PD) (t:PSt σ) (id:Int) (e:Ending) (w':World):Prop:=
 ∃ t' er,e=.returned (.int .i64 er)∧Stp M P w w' d t t'∧Ev P d.z 1 none9 t t'∧Num t t'∧
   ((er=0∧t'.g=upd t.g id none∧cntF qUsed t'.F d.n+1=cntF qUsed t.F d.n∧∀i,i≠id→t'.pm i=t.pm i)∨(er=P.ez∧P.room t.s=0∧t'.pm=t.pm∧t'.g=t.g∧t'.F=t.F))
section
variable {σ:Type} {K:SnkF σ} {M:Snk K} {P:PSnk K} {w w' w1 w2:World} {d:PD} {t t' t1 t2:PSt σ} {id:Int} {x:Pg} {j:Nat}
theorem PgrAt.look (h:PgrAt M w d t) {k:Int} (hk: -9223372036854775808≤k∧k≤9223372036854775807):
 (Instr.lookup 142 (.map (some d.Mm)) (.int .i64 k) false).run Tryz.prog w=.ok (pgP (visP t.pm t.hole k)) w:=by
 rw [MapIs.look h.mp intKeyed Tryz.underlying142 (zeroPage w) (keyOf_int_mk Tryz.underlying3 (int_wf hk)) false,pgF_at]
 cases visP t.pm t.hole k<;>rfl
theorem pi_key (hi:PI P d t) (hg:t.g id=some j):j<d.n∧(t.F j).used=true∧(t.F j).key=id:=hi.kv.good.b id j hg
theorem out_done (hK:K.Good) (hi:PI P d t1) (h1:PgrAt M w1 d t1) (hx:t1.pm id=some x) (hg:t1.g id=some j) (hz:x.zero=true∨x.put=true) {c':Nat}
 (hp:PoolAt w2 d.Pb d.B d.Mp d.n (putF t1.F j Fr.zero) t1.h (upd t1.g (t1.F j).key none) c') (ho:Off (PB d.Pb d.B d.Mp) (w1.setCell ⟨x.X,0,none⟩ (.slice none 0 0)) w2):
 ∃t2,Stp M P w1 w2 d t1 t2∧Ev P d.z 0 none9 t1 t2∧Num t1 t2∧t2.g=upd t1.g id none∧cntF qUsed t2.F d.n+1=cntF qUsed t1.F d.n∧∀i,i≠id→t2.pm i=t1.pm i:=by
 obtain ⟨hj,hu,hkey⟩:=pi_key hi hg
 have hpg:=h1.pg id x hx
 have ho1:Off x.blk w1 (w1.setCell ⟨x.X,0,none⟩ (.slice none 0 0)):=(Off.refl x.blk w1).setCell (p:=⟨x.X,0,none⟩) (.inl rfl) _
 have hp1:PgAt (w1.setCell ⟨x.X,0,none⟩ (.slice none 0 0)) d.z {x with bb:=none}:=hpg.set (k:=0) (x':={x with bb:=none}) rfl rfl rfl rfl rfl rfl rfl (fun B c L e=>by cases e)
 have h2:=h1.setPage (id:=id) (x:=x) (x':={x with bb:=none}) hx rfl (fun k hk=>by
  rcases hk with e|⟨c,L,e⟩
  · exact .inl (.inl e)
  · cases e) ho1 hp1
 have h3:=h2.setPool ho hp
 rw [hkey] at h3
 obtain ⟨y,e1,e2⟩:=hi.res id j hg
 rw [hx] at e1
 cases e1
 obtain ⟨⟨B,c,L⟩,hb⟩:=Option.ne_none_iff_exists'.1 e2
 have hlen:=(hpg.bs B c L hb).len
 have hpm:∀i y,updP t1.pm id (some {x with bb:=none}) i=some y→(i=id∧y={x with bb:=none})∨(i≠id∧t1.pm i=some y):=fun i y e=>by
  unfold updP at e
  split at e
  · rename_i h;exact .inl ⟨h,(Option.some.inj e).symm⟩
  · rename_i h;exact .inr ⟨h,e⟩
 refine ⟨{t1 with pm:=updP t1.pm id (some {x with bb:=none}),F:=putF t1.F j Fr.zero,g:=upd t1.g id none,c:=c'},⟨h3,?_,?_,?_⟩,?_,⟨rfl,rfl,rfl⟩,rfl,?_,fun i hn=>updP_ne _ _ hn⟩
 · refine ⟨hi.inn,⟨?_,fun i hin=>?_⟩,fun i hin=>?_,fun i k hik=>?_,fun i y hy hbb=>?_,fun i y hy hpp=>?_,fun i y B c L hy hzz hbb=>?_,fun i y hy h1 h2=>?_,fun i y hy=>?_,hi.hol,hi.nx1⟩
   · have:=Good.drop hi.kv.good hj hu
     rw [hkey] at this
     exact this
   · show 0≤(putF t1.F j Fr.zero i).pins∧(putF t1.F j Fr.zero i).pins≤1048576
     unfold putF
     split
     · simp [Fr.zero]
     · exact hi.kv.pins i hin
   · show (putF t1.F j Fr.zero i).pins=0
     unfold putF
     split
     · rfl
     · exact hi.pz i hin
   · have hik':upd t1.g id none i=some k:=hik
     unfold upd at hik'
     split at hik'
     · cases hik'
     · rename_i hne
       obtain ⟨y,f1,f2⟩:=hi.res i k hik'
       exact ⟨y,(updP_ne _ _ hne).trans f1,f2⟩
   · show upd t1.g id none i≠none
     rcases hpm i y hy with ⟨rfl,rfl⟩|⟨e,f⟩
     · simp at hbb
     · unfold upd
       rw [if_neg e]
       exact hi.has i y f hbb
   · rcases hpm i y hy with ⟨rfl,rfl⟩|⟨e,f⟩
     · exact ⟨fun B c L e=>(by cases e),fun hzz=>(hi.put i x hx hpp).2 hzz⟩
     · exact hi.put i y f hpp
   · rcases hpm i y hy with ⟨rfl,rfl⟩|⟨e,f⟩
     · cases hbb
     · exact hi.zer i y B c L f hzz hbb
   · rcases hpm i y hy with ⟨rfl,rfl⟩|⟨e,f⟩
     · exfalso
       rcases hz with hz|hz
       · rw [hz] at h2;cases h2
       · rw [hz] at h1;cases h1
     · exact hi.dty i y f h1 h2
   · rcases hpm i y hy with ⟨rfl,rfl⟩|⟨e,f⟩
     · exact hi.ids i x hx
     · exact hi.ids i y f
 · refine (ho1.mono fun k hk=>Or.inl (.inr (.inr (.inr (.inr (.inr ⟨id,x,hx,hk⟩)))))).trans (ho.mono fun k hk=>?_)
   rcases hk with rfl|rfl|rfl
   · exact .inl (.inr (.inl rfl))
   · exact .inl (.inr (.inr (.inl rfl)))
   · exact .inl (.inr (.inr (.inr (.inl rfl))))
 · intro k hk
   rcases hk with hk|hk
   · rcases own_upd hx hk with e|e
     · exact .inl (.inl e)
     · rcases e with e|⟨c,L,e⟩
       · exact .inl (.inl (.inr (.inr (.inr (.inr (.inr ⟨id,x,hx,.inl e⟩))))))
       · cases e
   · exact .inl (.inr hk)
 · refine ⟨fun i _ hn=>?_,fun i y _ hy=>?_,SubR.refl _,Nat.le_refl _,fun _=>rfl,fun h=>h,fun n h=>h⟩
   · exact (updP_ne _ _ (fun e=>by rw [e,hx] at hn;cases hn)).trans hn
   · by_cases hid:i=id
     · subst hid
       rw [hx] at hy
       cases hy
       refine ⟨{x with bb:=none},updP_same _ _ _,rfl,rfl,rfl,fun h=>⟨h,rfl⟩,fun L' hL=>?_⟩
       have hL2:L=L':=by
        unfold cont at hL
        rw [hb] at hL
        simpa using hL
       subst hL2
       unfold cont
       simp only
       cases hzz:x.zero with
       | true=>
         rw [if_pos rfl,hi.zer i x B c L hx hzz hb]
       | false=>
         have hpp:x.put=true:=by
          rcases hz with hz|hz
          · rw [hz] at hzz;cases hzz
          · exact hz
         rw [(hi.put i x hx hpp).1 B c L hb]
         simp [hlen]
     · exact ⟨y,(updP_ne _ _ hid).trans hy,rfl,rfl,rfl,fun h=>⟨h,rfl⟩,fun L hL=>hL⟩
 · have e1:=cntF_put (q:=qUsed) (F:=t1.F) (f:=Fr.zero) hj
   have e3:qUsed (t1.F j)=true:=hu
   have e4:qUsed Fr.zero=false:=rfl
   rw [e3,e4] at e1
   simpa using e1
theorem out_any (hK:K.Good) (hmi:P.Miss) (h:PgrAt M w d t) (hi:PI P d t) (hg:t.g id=some j) (hh:t.hole≠some id) (hid: -9223372036854775808≤id∧id≤9223372036854775807) (hrd:K.Rdy t.s 1):
 Calls Tryz.prog 91 #[.pointer (some ⟨d.Q,0,none⟩),.int .i64 (j:Nat)] w (OutPost (M:=M) P w d t id):=by
 obtain ⟨x,hx,hbb⟩:=hi.res id j hg
 obtain ⟨hj,hu,hkey⟩:=pi_key hi hg
 have HAT:=hJ (At_yes h.pool j hj)
 have hlk:∀W,Below w.heap.size w W→∀g:Up W,(Instr.lookup 142 (.map (some d.Mm)) (.int .i64 id) false).run Tryz.prog g.world=.ok (.pointer (some ⟨x.X,0,none⟩)) g.world:=fun W hb g=>by
  have:=(h.up (hb.trans (g.h.mono hb.size))).look hid
  rw [this]
  unfold visP
  rw [if_neg (fun e=>hh e.symm),hx]
  rfl
 have HLK:=hJ hlk
 have H:=hJ h
 have HI:=hJ hi
 have HX:=hJ hx
 have HJ:=hJ (show j<d.n∧(t.F j).used=true∧(t.F j).key=id from ⟨hj,hu,hkey⟩)
 have HG:=hJ hg
 have HRD:=hJ hrd
 obtain ⟨hz1,hz2⟩:=h.zs
 have q0:=h.q0
 have lQ:=h.ltQ
 clear h hi hx hbb hj hu hkey hlk hg hh hrd
 go_enter Tryz.func91,Tryz.ntmps91
 go_wp2_with fail
 refine HAT.out.mono ?_
 rintro e w1 ⟨rfl,hb⟩
 have HB:=hJ hb
 unfold Fr.val
 rw [HJ.out.2.2]
 clear hb HAT
 go_upto_region 2 with (fail)
 refine wp_forget (fun V=>Below w.heap.size w V∧V.cell? ⟨w1.heap.size,0,none⟩=some (.int .i64 id)) ⟨HB.out.alloc HB.out.size _,?_⟩ ?_
 · rw [cell_of_row _ _ _ _ _ _ (heap_alloc_new w1 _)]
   rfl
 rintro V ⟨hb,b0⟩
 have hlk:=HLK.out V hb
 have q4:=(H.out.up hb).q4
 have lQ2:=(H.out.up hb).ltQ
 have lb:=lt_of_cell b0
 have HB2:=hJ hb
 clear hb HB HLK q0 lQ
 refine wp_region_up (by kernel_rfl) (by kernel_rfl) ?_
 repeat (go_big_quiet_step (fail))
 refine wpQuiet_nil ?_
 rintro _ ⟨g,rfl⟩
 have hB3:=HB2.out.trans (g.h.mono HB2.out.size)
 generalize g.world=W at *
 have h1:=H.out.up hB3
 have HB:=hJ hB3
 have H1:=hJ h1
 have p4:=(h1.pg id x HX.out).c4
 clear hB3 h1 hlk q4 lQ2 lb b0 HB2
 cases hz:x.zero with
 | true=>
   rw [hz] at p4
   have HZ:=hJ (show x.zero=true∨x.put=true from .inl hz)
   have c0:=(H1.out.pg id x HX.out).c0
   have f0:=(H1.out.pg id x HX.out).fz 0
   have q0:=H1.out.q0
   have hne:x.X≠d.Q:=(H1.out.neX HX.out (.inl rfl)).1
   have hp1:=(H1.out.pool.off ((Off.refl (· =x.X) W).setCell (p:=⟨x.X,0,none⟩) rfl (.slice none 0 0)) (fun e=>(H1.out.neX HX.out (.inl rfl)).2.1 e.symm) (fun e=>(H1.out.neX HX.out (.inl rfl)).2.2.1 e.symm) (fun e=>(H1.out.neX HX.out (.inl rfl)).2.2.2.1 e.symm))
   have HD:=hJ (Drop_yes hp1 j HJ.out.1 HJ.out.2.1 (by rw [HI.out.pz j HJ.out.1];omega))
   clear hz hp1
   go_wp2_with fail
   refine HD.out.mono ?_
   rintro e w5 ⟨rfl,⟨c5,hp5⟩,ho5⟩
   have HE:=hJ (out_done hK HI.out H1.out HX.out HG.out HZ.out hp5 ho5)
   clear hp5 ho5 HD c0 f0 q0 p4
   go_wp2
   go_ret
   obtain ⟨t2,s1,s2,s3,s4,s5,s6⟩:=HE.out
   exact ⟨t2,0,rfl,(Stp.below H.out HI.out HB.out).trans s1,s2.more hK (by omega),s3,.inl ⟨rfl,s4,s5,s6⟩⟩
 | false=>
   rw [hz] at p4
   have q0:=H1.out.q0
   have HS:=hJ (save_any hK hmi H1.out HI.out HX.out HRD.out)
   clear hz
   go_wp2_with fail
   refine HS.out.mono ?_
   rintro e w2 ⟨t1,er,rfl,s1,s2,s3,eF,eg,eh,⟨rfl,a,e4,e5,e6⟩|⟨rfl,e4,e5⟩⟩
   · have S1:=hJ s1
     have S2:=hJ s2
     have S3:=hJ s3
     have EE:=hJ (show t1.F=t.F∧t1.g=t.g∧t1.pm=updP t.pm id (some {x with at_:=a,put:=true}) from ⟨eF,eg,e4⟩)
     have HX2:Hid (t1.pm id=some {x with at_:=a,put:=true}):=hJ (by rw [e4];exact updP_same _ _ _)
     have c0:=(s1.at_.pg id _ HX2.out).c0
     have f0:=(s1.at_.pg id _ HX2.out).fz 0
     have q0':=s1.at_.q0
     have hp1:=(s1.at_.pool.off ((Off.refl (· =x.X) w2).setCell (p:=⟨x.X,0,none⟩) rfl (.slice none 0 0)) (fun e=>(s1.at_.neX HX2.out (.inl rfl)).2.1 e.symm) (fun e=>(s1.at_.neX HX2.out (.inl rfl)).2.2.1 e.symm) (fun e=>(s1.at_.neX HX2.out (.inl rfl)).2.2.2.1 e.symm))
     have HD:=hJ (Drop_yes hp1 j HJ.out.1 (by rw [eF];exact HJ.out.2.1) (by rw [s1.inv.pz j HJ.out.1];omega))
     simp only at c0 f0
     have hne:x.X≠d.Q:=(s1.at_.neX HX2.out (.inl rfl)).1
     clear s1 s2 s3 eF eg eh e4 e5 e6 hp1 HS q0 p4
     go_wp2_with fail
     refine HD.out.mono ?_
     rintro e w5 ⟨rfl,⟨c5,hp5⟩,ho5⟩
     have HE:=hJ (out_done hK S1.out.inv S1.out.at_ HX2.out (by rw [EE.out.2.1];exact HG.out) (.inr rfl) hp5 ho5)
     clear hp5 ho5 HD c0 f0 q0'
     go_wp2
     go_ret
     obtain ⟨t2,u1,u2,u3,u4,u5,u6⟩:=HE.out
     refine ⟨t2,0,rfl,((Stp.below H.out HI.out HB.out).trans S1.out).trans u1,S2.out.trans u2,S3.out.trans u3,.inl ⟨rfl,by rw [u4,EE.out.2.1],by rw [u5,EE.out.1],fun i hn=>?_⟩⟩
     rw [u6 i hn,EE.out.2.2]
     exact updP_ne _ _ hn
   · have he0:=P.ez0
     have S1:=hJ s1
     have S2:=hJ s2
     have S3:=hJ s3
     have EE:=hJ (show t1.F=t.F∧t1.g=t.g∧t1.pm=t.pm∧P.room t.s=0 from ⟨eF,eg,e5,e4⟩)
     clear s1 s2 s3 eF eg eh e4 e5 HS q0 p4
     go_wp2
     go_ret
     exact ⟨t1,P.ez,rfl,(Stp.below H.out HI.out HB.out).trans S1.out,S2.out,S3.out,.inr ⟨rfl,EE.out.2.2.2,EE.out.2.2.1,EE.out.2.1,EE.out.1⟩⟩
end
set_option maxRecDepth 100000
set_option maxHeartbeats 4000000
def BrPost {σ:Type} {K:SnkF σ} {M:Snk K} (P:PSnk K) (w:World) (d:PD) (t:PSt σ) (id:Int) (x:Pg) (e:Ending) (w':World):Prop:=
 ∃ t' er,e=.returned (.int .i64 er)∧Stp M P w w' d t t'∧Ev P d.z 1 none9 t t'∧Num t t'∧
   ((er=0∧(∃B c L,t'.pm id=some {x with bb:=some (B,c,L)}∧cont (P.rd t.s) d.z x=some L∧L.length=d.z)∧∃j,t'.g id=some j)∨(er=P.ez∧P.room t.s=0∧t'.g id=none)∨(er=20∧cont (P.rd t.s) d.z x=none∧t'.g id=none))
section
variable {σ:Type} {K:SnkF σ} {M:Snk K} {P:PSnk K} {w w' w1 w2 w3 w4 w5:World} {d:PD} {t t' t1 t2:PSt σ} {id:Int} {x:Pg} {j:Nat}
theorem mk_by (x:Pg) {B c:Nat} {L:Bytes} (h:x.bb=some (B,c,L)):({x with bb:=some (B,c,L)}:Pg)=x:=by
 cases x
 simp at h
 simp [h]
theorem pi_touch (hi:PI P d t) {f:Fr} {c':Nat} (hk:f.key=(t.F j).key) (hu:f.used=(t.F j).used) (hp:f.pins=(t.F j).pins):PI P d {t with F:=putF t.F j f,c:=c'}:=by
 have he:∀i,(putF t.F j f i).key=(t.F i).key∧(putF t.F j f i).used=(t.F i).used∧(putF t.F j f i).pins=(t.F i).pins:=fun i=>by
  unfold putF
  split
  · rename_i h;subst h;exact ⟨hk,hu,hp⟩
  · exact ⟨rfl,rfl,rfl⟩
 refine ⟨hi.inn,⟨hi.kv.good.same (fun i _=>⟨(he i).1,(he i).2.1⟩),fun i hin=>?_⟩,fun i hin=>?_,hi.res,hi.has,hi.put,hi.zer,hi.dty,hi.ids,hi.hol,hi.nx1⟩
 · show 0≤(putF t.F j f i).pins∧(putF t.F j f i).pins≤1048576
   rw [(he i).2.2]
   exact hi.kv.pins i hin
 · show (putF t.F j f i).pins=0
   rw [(he i).2.2]
   exact hi.pz i hin
theorem stp_touch (hi:PI P d t) (h:PgrAt M w d t) {f:Fr} {c':Nat} (hk:f.key=(t.F j).key) (hu:f.used=(t.F j).used) (hpi:f.pins=(t.F j).pins) (hp:PoolAt w' d.Pb d.B d.Mp d.n (putF t.F j f) t.h t.g c') (ho:Off (PB d.Pb d.B d.Mp) w w'):
 Stp M P w w' d t {t with F:=putF t.F j f,c:=c'}:=by
 refine ⟨h.setPool ho hp,pi_touch hi hk hu hpi,ho.mono fun k hk=>?_,fun k hk=>.inl hk⟩
 rcases hk with rfl|rfl|rfl
 · exact .inl (.inr (.inl rfl))
 · exact .inl (.inr (.inr (.inl rfl)))
 · exact .inl (.inr (.inr (.inr (.inl rfl))))
theorem ev_touch {z:Nat} {E:Int→Prop} {F':Nat→Fr} {c':Nat}:Ev P z 0 E t {t with F:=F',c:=c'}:=⟨fun _ _=>id,fun i x _ h=>⟨x,h,rfl,rfl,rfl,fun h=>⟨h,rfl⟩,fun _ h=>h⟩,SubR.refl _,Nat.le_refl _,fun _=>rfl,id,fun n h=>h⟩
theorem br_res (hK:K.Good) (hi:PI P d t) (h:PgrAt M w d t) (hx:t.pm id=some x) (hg:t.g id=some j) {f:Fr} {c':Nat} (hk:f.key=(t.F j).key) (hu:f.used=(t.F j).used) (hpi:f.pins=(t.F j).pins) (hp:PoolAt w' d.Pb d.B d.Mp d.n (putF t.F j f) t.h t.g c') (ho:Off (PB d.Pb d.B d.Mp) w w'):
 BrPost (M:=M) P w d t id x (.returned (.int .i64 0)) w':=by
 obtain ⟨y,e1,e2⟩:=hi.res id j hg
 rw [hx] at e1
 cases e1
 obtain ⟨⟨B,c,L⟩,hb⟩:=Option.ne_none_iff_exists'.1 e2
 refine ⟨{t with F:=putF t.F j f,c:=c'},0,rfl,stp_touch hi h hk hu hpi hp ho,ev_touch.more hK (by omega),⟨rfl,rfl,rfl⟩,.inl ⟨rfl,⟨B,c,L,by rw [mk_by x hb];exact hx,?_,((h.pg id x hx).bs B c L hb).len⟩,j,hg⟩⟩
 unfold cont
 rw [hb]
theorem br_take {w0:World} {t0:PSt σ} {B:Nat} (hK:K.Good) (S:Stp M P w0 w1 d t0 t1) (hBB:w0.heap.size≤B) (hx:t1.pm id=some x) (hg:t1.g id=none) (hbb:x.bb=none) {c:Nat} {L:Bytes} (hc:cont (P.rd t1.s) d.z x=some L) (hby:ByAt w1 d.z B c L) (hB:¬Own d t1 B) (hj:j<d.n) (hno:∀k,t1.g k≠some j)
 (hkv:KInv d.n (putF t1.F j (Fr.new id)) (upd t1.g id (some j))) {c':Nat} (hp:PoolAt w2 d.Pb d.B d.Mp d.n (putF t1.F j (Fr.new id)) t1.h (upd t1.g id (some j)) c') (ho:Off (PB d.Pb d.B d.Mp) w1 w2) (hb3:Below w2.heap.size w2 w3):
 ∃t2,Stp M P w0 (w3.setCell ⟨x.X,0,none⟩ (.slice (some ⟨B,0,none⟩) d.z c)) d t0 t2∧Ev P d.z 0 none9 t1 t2∧Num t1 t2∧t2.pm id=some {x with bb:=some (B,c,L)}∧t2.g id=some j∧(t2.F j).used=true:=by
 have hi:=S.inv
 have h1:=S.at_
 have h2:=h1.setPool ho hp
 have h3:=h2.up hb3
 have hPB:∀k,PB d.Pb d.B d.Mp k→Own d t1 k:=fun k hk=>by
  rcases hk with rfl|rfl|rfl
  · exact .inl (.inr (.inl rfl))
  · exact .inl (.inr (.inr (.inl rfl)))
  · exact .inl (.inr (.inr (.inr (.inl rfl))))
 have hz:=h1.zs.1
 have hby3:ByAt w3 d.z B c L:=(hby.off hz ho (fun e=>hB (hPB _ e))).off (S:=fun _=>False) hz (Off.of_below hb3) (fun e=>e)
 have hpg:=h3.pg id x hx
 have hXB:B≠x.X:=fun e=>hB (.inl (.inr (.inr (.inr (.inr (.inr ⟨id,x,hx,.inl e⟩))))))
 have ho3:Off x.blk w3 (w3.setCell ⟨x.X,0,none⟩ (.slice (some ⟨B,0,none⟩) d.z c)):=(Off.refl x.blk w3).setCell (p:=⟨x.X,0,none⟩) (.inl rfl) _
 have hp4:PgAt (w3.setCell ⟨x.X,0,none⟩ (.slice (some ⟨B,0,none⟩) d.z c)) d.z {x with bb:=some (B,c,L)}:=hpg.set (k:=0) (x':={x with bb:=some (B,c,L)}) rfl (by unfold Pg.bv;simp [hby.len]) rfl rfl rfl rfl rfl (fun B' c' L' e=>by
  cases e
  exact hby3.off hz ((Off.refl (· =x.X) w3).setCell (p:=⟨x.X,0,none⟩) rfl _) hXB)
 have h4:=h3.setPage (id:=id) (x:=x) (x':={x with bb:=some (B,c,L)}) hx rfl (fun k hk=>by
  rcases hk with e|⟨c1,L1,e⟩
  · exact .inl (.inl e)
  · cases e
    exact .inr ⟨fun e=>hB (.inl e),fun e=>hB (.inr e)⟩) ho3 hp4
 have hpm:∀i y,updP t1.pm id (some {x with bb:=some (B,c,L)}) i=some y→(i=id∧y={x with bb:=some (B,c,L)})∨(i≠id∧t1.pm i=some y):=fun i y e=>by
  unfold updP at e
  split at e
  · rename_i h;exact .inl ⟨h,(Option.some.inj e).symm⟩
  · rename_i h;exact .inr ⟨h,e⟩
 have hzL:x.zero=true→L=zeros d.z:=fun hzz=>by
  unfold cont at hc
  rw [hbb] at hc
  simp [hzz] at hc
  exact hc.symm
 refine ⟨{t1 with pm:=updP t1.pm id (some {x with bb:=some (B,c,L)}),F:=putF t1.F j (Fr.new id),g:=upd t1.g id (some j),c:=c'},⟨h4,?_,?_,?_⟩,?_,⟨rfl,rfl,rfl⟩,updP_same _ _ _,by show upd t1.g id (some j) id=_;unfold upd;rw [if_pos rfl],by show (putF t1.F j (Fr.new id) j).used=true;unfold putF;rw [if_pos rfl];rfl⟩
 · refine ⟨hi.inn,hkv,fun i hin=>?_,fun i k hik=>?_,fun i y hy hbb=>?_,fun i y hy hpp=>?_,fun i y B c L hy hzz hbb=>?_,fun i y hy h1 h2=>?_,fun i y hy=>?_,hi.hol,hi.nx1⟩
   · show (putF t1.F j (Fr.new id) i).pins=0
     unfold putF
     split
     · rfl
     · exact hi.pz i hin
   · have hik':upd t1.g id (some j) i=some k:=hik
     unfold upd at hik'
     split at hik'
     · rename_i he
       exact ⟨_,by rw [he];exact updP_same _ _ _,by simp⟩
     · rename_i hne
       obtain ⟨y,f1,f2⟩:=hi.res i k hik'
       exact ⟨y,(updP_ne _ _ hne).trans f1,f2⟩
   · show upd t1.g id (some j) i≠none
     unfold upd
     rcases hpm i y hy with ⟨rfl,rfl⟩|⟨e,f⟩
     · rw [if_pos rfl];simp
     · rw [if_neg e]
       exact hi.has i y f hbb
   · rcases hpm i y hy with ⟨rfl,rfl⟩|⟨e,f⟩
     · refine ⟨fun B' c' L' e=>?_,fun hzz=>(hi.put i x hx hpp).2 hzz⟩
       cases e
       cases hzz:x.zero with
       | true=>
         rw [hzL hzz]
         exact (hi.put i x hx hpp).2 hzz
       | false=>
         unfold cont at hc
         rw [hbb,hzz] at hc
         show P.rd t1.s x.at_=some L
         cases hr:P.rd t1.s x.at_ with
         |none=>rw [hr] at hc;simp at hc
         | some b=>
           rw [hr] at hc
           simp at hc
           rw [hc.2]
     · exact hi.put i y f hpp
   · rcases hpm i y hy with ⟨rfl,rfl⟩|⟨e,f⟩
     · cases hbb
       exact hzL hzz
     · exact hi.zer i y B c L f hzz hbb
   · rcases hpm i y hy with ⟨rfl,rfl⟩|⟨e,f⟩
     · simp
     · exact hi.dty i y f h1 h2
   · rcases hpm i y hy with ⟨rfl,rfl⟩|⟨e,f⟩
     · exact hi.ids i x hx
     · exact hi.ids i y f
 · refine S.off.late (((ho.mono hPB).step hb3).late ho3 (fun i _ hk=>.inl (.inr (.inr (.inr (.inr (.inr ⟨id,x,hx,hk⟩))))))) (fun i hl hk=>?_)
   rcases S.own i hk with e|e
   · exact e
   · omega
 · intro k hk
   rcases hk with hk|hk
   · rcases own_upd hx hk with e|e
     · exact S.own k (.inl e)
     · rcases e with e|⟨c1,L1,e⟩
       · exact S.own k (.inl (.inr (.inr (.inr (.inr (.inr ⟨id,x,hx,.inl e⟩))))))
       · cases e
         exact .inr hBB
   · exact S.own k (.inr hk)
 · refine ⟨fun i _ hn=>?_,fun i y _ hy=>?_,SubR.refl _,Nat.le_refl _,fun _=>rfl,fun h=>h,fun n h=>h⟩
   · exact (updP_ne _ _ (fun e=>by rw [e,hx] at hn;cases hn)).trans hn
   · by_cases hid:i=id
     · subst hid
       rw [hx] at hy
       cases hy
       refine ⟨{x with bb:=some (B,c,L)},updP_same _ _ _,rfl,rfl,rfl,fun h=>⟨h,rfl⟩,fun L' hL=>?_⟩
       have hc':cont (P.rd t1.s) d.z x=some L':=hL
       rw [hc] at hc'
       cases hc'
       unfold cont
       rfl
     · exact ⟨y,(updP_ne _ _ hid).trans hy,rfl,rfl,rfl,fun h=>⟨h,rfl⟩,fun L hL=>hL⟩
end
end Go.Proofs.YtlhfjaagkgengaaGreat
