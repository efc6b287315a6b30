/- almanaclaw16: same. almanaclaw16: one operation of one space, and the document's. almanaclaw16: do. almanaclaw16: step: acts of no kind. -/
import Derived.Test.YtlhfjaagkgengaaGreatPC45
namespace Go.Proofs.YtlhfjaagkgengaaGreat
set_option maxRecDepth 100000
open Go.RowKit Go.Maps
set_option linter.unusedVariables false
set_option linter.unusedSimpArgs false
section
variable {w0 w w' w1 w2:World} {o:WD} {t t':PSt ShS} {C C':Cu} {kk k:Nat} {l l':List Spc} {P P':List (Option MPr)} {Q:List (Option Nat)} {s:Spc} {p:MPr}
theorem MaF.npos {D:MaD} {B:List Bool} {Q:List (Option Nat)} (h:MaF w D B Q):1≤D.n∧D.n≤64:=by
 obtain ⟨_,h2,_,_⟩:=h.good
 have:=h.en
 omega
theorem WB.rAt (h:WB w0 w o t C kk l P Q):∃g,o.A=some ⟨g,0,none⟩∧g<w.heap.size∧(∀i x,Q[i]? =some x→w.cell? ⟨g,i,none⟩=some (.pointer (x.map fun g=>⟨g,0,none⟩)))∧∀i,w.frozen? ⟨g,i,none⟩=false:=by
 have hb:=h.row
 have hn:=h.ma.f.npos
 unfold WD.rv at hb
 rcases OwE.cases hb with ⟨_,h1,_⟩|⟨g,hg⟩
 · omega
 rw [hg] at hb
 have hlt:=(OwE.lt hb (k:=g) rfl).2
 refine ⟨g,hg,hlt,fun i x hx=>?_,fun i=>?_⟩
 · have hl:0<Q.length:=by have:=(jS.1 hx).1;omega
   obtain ⟨g',o',e,_,hc⟩:=hb.rg.at_ hl
   cases e
   have:=hc i x hx 0 _ rfl
   rw [show psE.k=1 from rfl,Nat.mul_one,Nat.zero_add,Nat.add_zero] at this
   exact this
 · have hl:=h.lQ
   rw [←hl] at hb
   exact World.ownsRow.frozenAt hb i
theorem pgL_len (h:PrAt w o.D.z p):p.pl.L.length=p.L.length:=by unfold MPr.pl;simp
set_option maxHeartbeats 4000000 in
theorem same16 (h:WB w0 w o t C kk l P Q) (hs:s∈l) (hQ:Q[k]? =some (some s.D.X)) (hP:P[k]? =some (some p)) (hr:PgRel s C p.pl) (hn:p.L.length≤100000):
 Calls Tryz.prog 73 #[.pointer (some ⟨o.W,0,none⟩),.int .i64 (k:Nat)] w fun e w'=>e=.returned (.bool true)∧Below w.heap.size w w':=by
 have HS:=h.lw.sw.ss s hs
 have hcnt:s.n=p.L.length:=by rw [hr.cnt HS.sp,pgL_len (h.ma.get hP)]
 have hL:s.L=p.R:=hr.R
 have hRL:p.R.length≤10000:=by rw [←hL];exact HS.len
 have HSP:=hJ HS.sp
 have hp:=h.ma.get hP
 have HP:=hJ hp
 have HREL:=hJ hr
 obtain ⟨g,hg,lg,hcg,fg⟩:=h.rAt
 obtain ⟨gp,hgp,lgp,hcgp,fgp⟩:=h.ma.f.qAt
 have r1:=hcg k _ hQ
 have r2:=hcgp k (some p.X) (by rw [List.getElem?_map,hP];rfl)
 have lQ:=h.lQ
 have hk:k<o.D.n:=by rw [←lQ];exact (jS.1 hQ).1
 have hn64:=h.ma.f.npos
 have lW:=h.ltW
 have c10:=h.c10
 have c11:=h.c11
 have m10:=h.ma.f.c10
 have lX:=h.ma.f.ltX
 unfold WD.rv at c11
 unfold MaD.qv at m10
 rw [hg] at c11
 rw [hgp] at m10
 have p0:=hp.c0
 have p1:=hp.c1
 have lp:=hp.ltX
 unfold MPr.rv at p0
 unfold MPr.lv at p1
 simp only [Option.map_some] at r1 r2
 have HK:Hid (∀V,Below w.heap.size w V→V.cell? ⟨o.W,10,none⟩=some (.pointer (some ⟨o.D.X,0,none⟩))∧V.cell? ⟨o.W,11,none⟩=some (.slice (some ⟨g,0,none⟩) o.D.n o.cap)∧V.cell? ⟨o.D.X,10,none⟩=some (.slice (some ⟨gp,0,none⟩) o.D.n o.D.Qc)∧V.cell? ⟨g,k,none⟩=some (.pointer (some ⟨s.D.X,0,none⟩))∧V.cell? ⟨gp,k,none⟩=some (.pointer (some ⟨p.X,0,none⟩))∧V.cell? ⟨p.X,0,none⟩=some (.slice p.RA p.R.length p.Rc)∧V.cell? ⟨p.X,1,none⟩=some (.slice p.LA p.L.length p.Lc)):=hJ fun V hV=>
  ⟨(hV.cell (p:=⟨o.W,10,none⟩) lW).trans c10,(hV.cell (p:=⟨o.W,11,none⟩) lW).trans c11,(hV.cell (p:=⟨o.D.X,10,none⟩) lX).trans m10,(hV.cell (p:=⟨g,k,none⟩) lg).trans r1,(hV.cell (p:=⟨gp,k,none⟩) lgp).trans r2,(hV.cell (p:=⟨p.X,0,none⟩) lp).trans p0,(hV.cell (p:=⟨p.X,1,none⟩) lp).trans p1⟩
 have HRG:=hJ (fun (V:World) (hV:Below w.heap.size w V)=>regions_b (HSP.out.up hV) (by rw [hL];omega))
 have HSL:=hJ (fun (V:World) (hV:Below w.heap.size w V)=>slots_b (HSP.out.up hV) (by omega))
 have HWT:=hJ (fun (V:World) (hV:Below w.heap.size w V)=>weight_b (HSP.out.up hV) (by rw [hL];omega) (by omega))
 have HPR:=hJ (fun (V:World) (hV:Below w.heap.size w V)=>(HP.out.up hV).rg)
 have HPL:=hJ (fun (V:World) (hV:Below w.heap.size w V)=>(HP.out.up hV).pg)
 have HKS:Hid (∀l,SlOf s.m s.n l→l.map (·.1)=p.L.map fun x=>((x.n:Nat):Int)):=hJ fun l hl=>by
  rw [HREL.out.slots hl]
  unfold keysL MPr.pl
  simp only [List.map_map]
  rfl
 have HNN:Hid (∀l,SlOf s.m s.n l→l.length=s.n):=hJ fun l hl=>hl.len
 rw [hL] at HRG HWT
 rw [hcnt] at HWT
 rw [hcnt] at HSL HKS HNN
 obtain ⟨R,hR⟩:∃R,p.R=R:=⟨_,rfl⟩
 obtain ⟨L,hLL⟩:∃L,p.L=L:=⟨_,rfl⟩
 rw [hR] at HRG HWT HK HPR p0 hRL
 rw [hLL] at HWT HSL HK HPL HKS p1 hn HNN
 clear hcg hcgp h hr hp HS hs hQ hP hcnt hL hLL HSP HP HREL hg hgp lQ
 go_enter Tryz.func73,Tryz.ntmps73
 go_upto_region 2 with (fail)
 go_upto_region 3 with (go_at_call 24;refine (HRG.out _ jB).mono ?_;rintro e w1 ⟨A1,q1,rfl,hf1⟩;have HF1:=hJ hf1;clear hf1)
 clear c10 c11 m10 r1 r2 p0 p1
 obtain ⟨c10,c11,m10,r1,r2,p0,p1⟩:=HK.out _ HF1.out.2
 go_upto_region 4 with (go_at_call 19;refine (HSL.out _ HF1.out.2).mono ?_;rintro e w2 ⟨A2,q2,sl,hsl,rfl,hf2⟩;have HF2:=hJ hf2;have HSLO:=hJ hsl;clear hf2 hsl)
 have HB2:=hJ (HF1.out.2.trans (HF2.out.2.mono HF1.out.2.size))
 clear c10 c11 m10 r1 r2 p0 p1
 obtain ⟨c10,c11,m10,r1,r2,p0,p1⟩:=HK.out _ HB2.out
 have hz2:=HB2.out.size
 have lW2:o.W<w2.heap.size:=by omega
 have lg2:g<w2.heap.size:=by omega
 have lp2:p.X<w2.heap.size:=by omega
 have hsum:IntKind.i64.wrap ((R.length:Int)+(L.length:Int))=((R.length+L.length:Nat):Int):=by rw [IntWalk.i64_in _ (by omega)];omega
 go_upto_region 6 with (go_at_call 25;refine (HWT.out _ HB2.out).mono ?_;rintro e w3 ⟨rfl,hb3⟩;have KS:Hid (w3.cell? ⟨p.X,0,none⟩=some (.slice p.RA R.length p.Rc)∧w3.cell? ⟨p.X,1,none⟩=some (.slice p.LA L.length p.Lc)):=hJ ⟨(hb3.cell (p:=⟨p.X,0,none⟩) lp2).trans p0,(hb3.cell (p:=⟨p.X,1,none⟩) lp2).trans p1⟩;have HB3:=hJ hb3;clear hb3)
 all_goals
  have HB4:=hJ (HB2.out.trans (HB3.out.mono HB2.out.size))
  clear c10 c11 m10 r1 r2 p0 p1 hsum HK HRG HSL HWT lW lg lp lX lW2 lg2 lp2 fg fgp lgp hk hn64 hz2
  go_wp2
  go_loopw [8] (fun i wr=>∃j:Nat,j≤R.length∧i=.int .i64 (j:Nat)∧Below w3.heap.size w3 wr) (fun i _=>R.length-(intOf i).toNat)
  case atStart=>exact ⟨0,Nat.zero_le _,rfl,Below.refl _ _⟩
  case round=>
   obtain ⟨j,hj,rfl,hb⟩:=hrel
   have HBW:=hJ hb
   have HBA:=hJ (HB4.out.trans (hb.mono HB4.out.size))
   by_cases hjn:j<R.length
   · obtain ⟨x,hx⟩:∃x,R[j]? =some x:=⟨_,jE hjn⟩
     have hr1:=((HF1.out.1.up HF2.out.2).up HB3.out).up hb
     obtain ⟨g1,o1,hA1,hg1,hc1⟩:=hr1.rg.at_ (by omega)
     obtain ⟨g2,o2,hA2,hg2,hc2⟩:=(HPR.out _ HBA.out).at_ (by omega)
     obtain ⟨x0,x1,x2⟩:=hc1 j x hx
     obtain ⟨y0,y1,y2⟩:=hc2 j x hx
     have hjI:(j:Int)<(R.length:Int):=by omega
     have heq:∀w,(Op.equalIn 10000 62 (.agg #[.int .i64 x.lo,.int .i64 x.hi,.int .i64 x.pr]) (.agg #[.int .i64 x.lo,.int .i64 x.hi,.int .i64 x.pr])).run Tryz.prog w=.ok true w:=fun w=>by
      rw [eq_rg x x];simp
     have k0:=(hb.cell (p:=⟨p.X,0,none⟩) (lt_of_cell KS.out.1)).trans KS.out.1
     rw [hA2] at k0
     have lp:=lt_of_cell k0
     obtain ⟨xl,xh,xp⟩:=x
     simp only at x0 x1 x2 y0 y1 y2 heq
     rw [hA1]
     clear hb hr1 hc1 hc2 hx hA1 hA2
     go_upto_region 9 with (fail)
     go_quiet (fail)
     go_wp2
     go_roundw
     case rel=>exact ⟨j+1,by omega,by go_num,below_drewN HBW.out _⟩
     case measure=>simp [intOf];omega
   · obtain rfl:j=R.length:=by omega
     have hjj:¬(R.length:Int)<(R.length:Int):=by omega
     clear hjn hb
     go_wp2
     have k1:=(HBW.out.cell (p:=⟨p.X,1,none⟩) (lt_of_cell KS.out.2)).trans KS.out.2
     go_loopw [9] (fun i wx=>∃j:Nat,j≤L.length∧i=.int .i64 (j:Nat)∧Below wr.heap.size wr wx) (fun i _=>L.length-(intOf i).toNat)
     case atStart=>exact ⟨0,Nat.zero_le _,rfl,Below.refl _ _⟩
     case round=>
      obtain ⟨j,hj,rfl,hb⟩:=hrel
      have HBX:=hJ hb
      have HBE:=hJ (HBA.out.trans (hb.mono HBA.out.size))
      by_cases hjn:j<L.length
      · obtain ⟨x,hx⟩:∃x,L[j]? =some x:=⟨_,jE hjn⟩
        have hsl:=HNN.out sl HSLO.out
        obtain ⟨y,hy⟩:∃y,sl[j]? =some y:=⟨_,jE (by omega)⟩
        have hxy:y.1=((x.n:Nat):Int):=by
         have e:=congrArg (fun l=>l[j]?) (HKS.out sl HSLO.out)
         simp only [List.getElem?_map,hx,hy,Option.map_some] at e
         exact Option.some.inj e
        have hr1:=((HF2.out.1.up HB3.out).up HBW.out).up hb
        obtain ⟨g1,o1,hA1,hg1,hc1⟩:=hr1.rg.at_ (by omega)
        obtain ⟨g2,o2,hA2,hg2,hc2⟩:=(HPL.out _ HBE.out).at_ (by omega)
        obtain ⟨x0,_⟩:=EAt.sl hc1 hy
        have y0:=hc2 j x hx 0 _ rfl
        change wr.cell? ⟨g2,o2+j*2+0,none⟩=some (.int .i64 (x.n:Nat)) at y0
        rw [Nat.add_zero] at y0
        rw [hxy] at x0
        obtain ⟨m,hm⟩:∃m,x.n=m:=⟨_,rfl⟩
        rw [hm] at x0 y0
        have hjI:(j:Int)<(L.length:Int):=by omega
        have k2:=(hb.cell (p:=⟨p.X,1,none⟩) (lt_of_cell k1)).trans k1
        rw [hA2] at k2
        have lp:=lt_of_cell k2
        rw [hA1]
        clear hb hr1 hc1 hc2 hx hA1 hA2 hy hsl hxy hm k1
        go_upto_region 14 with (fail)
        go_quiet (fail)
        go_wp2
        go_roundw
        case rel=>exact ⟨j+1,by omega,by go_num,below_drewN HBX.out _⟩
        case measure=>simp [intOf];omega
      · obtain rfl:j=L.length:=by omega
        have hjj2:¬(L.length:Int)<(L.length:Int):=by omega
        clear hjn hb
        go_wp2
        go_ret
        exact ⟨rfl,HBE.out⟩
end
set_option maxRecDepth 100000
def regP (p:PrP) (r:List Rg×Int) (L:PgL):PrP×Int×Bytes:=if r.2=0 then (⟨r.1,L⟩,0,[]) else (p,r.2,[])
def opP (S:SpD) (p:PrP) (o:OpP):PrP×Int×Bytes:=
 if o.kind=2 then regP p (mappedF S p.R o.at_ o.n o.prot) p.L
 else if o.kind=3 then regP p (unmappedF S p.R o.at_ o.n) (p.L.filter fun q=>keepU o.at_ o.n q.1)
 else if o.kind=4 then regP p (protectedF S p.R o.at_ o.n o.prot) p.L
 else if o.kind=5 then (p,checkF S p.R o.at_ o.n 1,if checkF S p.R o.at_ o.n 1=0 then ldN S.pg p.L o.at_.toNat o.n.toNat else [])
 else if checkF S p.R o.at_ (o.data.length:Nat) 2=0 then (⟨p.R,stL S.pg p.L o.at_.toNat o.data⟩,0,[]) else (p,checkF S p.R o.at_ (o.data.length:Nat) 2,[])
theorem set_back {E:Type} {l:List E} {k:Nat} {x:E} (h:l[k]? =some x):l.set k x=l:=by
 apply List.ext_getElem?
 intro i
 rw [List.getElem?_set]
 split
 · rename_i e
   subst e
   rw [h,if_pos (jS.1 h).1]
 · rfl
theorem doF_op {S:SpD} {P:MaP} {o:OpP} {k:Nat} {p:PrP} (hr:o.right=true) (hk:o.kind=2∨o.kind=3∨o.kind=4∨o.kind=5∨o.kind=6) (hp:o.pid=(k:Nat)) (hg:P[k]? =some (some p)):
 doF S P o=(P.set k (some (opP S p o).1),⟨(opP S p o).2.1,0,(opP S p o).2.2,[]⟩):=by
 have hget:getP P o.pid=some p:=by
  unfold getP
  rw [hp,if_pos (by omega),Int.toNat_natCast,hg]
  rfl
 have hset:P.set k (some p)=P:=set_back hg
 have hc:chkF S P o=if o.kind=5 then checkF S p.R o.at_ o.n 1 else if o.kind=6 then checkF S p.R o.at_ (o.data.length:Nat) 2 else (regF S p.R o.kind o.at_ o.n o.prot).2:=by
  unfold chkF
  rw [if_neg (by rw [hr];simp),if_neg (by omega),if_neg (by omega),hget]
  simp only
  by_cases h5:o.kind=5
  · rw [if_pos h5,if_pos h5]
  · rw [if_neg h5,if_neg h5]
    by_cases h6:o.kind=6
    · rw [if_pos h6,if_pos h6]
    · rw [if_neg h6,if_neg h6,if_neg (by omega),if_neg (by omega)]
 unfold doF
 rw [hc,hget]
 simp only
 have hto:o.pid.toNat=k:=by rw [hp];rfl
 rw [hto]
 obtain ⟨kind,pid,at_,n,prot,data⟩:=o
 simp only at hk hp ⊢
 rcases hk with rfl|rfl|rfl|rfl|rfl
 · have e:(regF S p.R 2 at_ n prot)=mappedF S p.R at_ n prot:=rfl
   simp only [e,opP,doPr,regP]
   by_cases hz:(mappedF S p.R at_ n prot).2=0<;>simp [hz,hset]
 · have e:(regF S p.R 3 at_ n prot)=unmappedF S p.R at_ n:=rfl
   simp only [e,opP,doPr,regP]
   by_cases hz:(unmappedF S p.R at_ n).2=0<;>simp [hz,hset]
 · have e:(regF S p.R 4 at_ n prot)=protectedF S p.R at_ n prot:=rfl
   simp only [e,opP,doPr,regP]
   by_cases hz:(protectedF S p.R at_ n prot).2=0<;>simp [hz,hset]
 · simp only [opP,doPr]
   by_cases hz:checkF S p.R at_ n 1=0<;>simp [hz,hset]
 · simp only [opP,doPr]
   by_cases hz:checkF S p.R at_ (data.length:Nat) 2=0<;>simp [hz,hset]
section
variable {w0 w w' w1 w2:World} {o:WD} {t t':PSt ShS} {C C':Cu} {kk k:Nat} {l l':List Spc} {P P':List (Option MPr)} {Q:List (Option Nat)} {s:Spc} {p:PrP}
theorem ShOk.map (h:ShOk o.D s) (L:List Rg) (a n q:Int):mappedF s.D L a n q=mappedF o.D.sd L a n q:=by
 obtain ⟨h1,h2,h3,h4⟩:=h
 unfold mappedF pagesB fitF
 rw [h3,h4]
 rfl
theorem ShOk.unmap (h:ShOk o.D s) (L:List Rg) (a n:Int):unmappedF s.D L a n=unmappedF o.D.sd L a n:=by
 obtain ⟨h1,h2,h3,h4⟩:=h
 unfold unmappedF pagesB fitF
 rw [h3,h4]
 rfl
theorem ShOk.prot (h:ShOk o.D s) (L:List Rg) (a n q:Int):protectedF s.D L a n q=protectedF o.D.sd L a n q:=by
 obtain ⟨h1,h2,h3,h4⟩:=h
 unfold protectedF pagesB fitF
 rw [h3,h4]
 rfl
theorem ShOk.check (h:ShOk o.D s) (L:List Rg) (a n q:Int):checkF s.D L a n q=checkF o.D.sd L a n q:=by
 obtain ⟨h1,h2,h3,h4⟩:=h
 unfold checkF
 rw [h2,h4]
 rfl
def DeR (w0 w:World) (t:PSt ShS) (o:WD) (C:Cu) (kk:Nat) (s:Spc) (l:List Spc) (P:List (Option MPr)) (Q:List (Option Nat)) (p':PrP) (w':World):Prop:=
 ∃t' C' s',WB w0 w' o t' C' kk (s'::l) P Q∧s'.D=s.D∧PgRel s' C' p'∧(∀x∈l,x.mem C'=x.mem C)∧Off (swO o.d t (s::l)) w w'
def DePost (w0 w:World) (t:PSt ShS) (o:WD) (C:Cu) (kk:Nat) (s:Spc) (l:List Spc) (P:List (Option MPr)) (Q:List (Option Nat)) (r:PrP×Int×Bytes) (e:Ending) (w':World):Prop:=
 e=.returned (.int .i64 r.2.1)∧r.2.2=[]∧DeR w0 w t o C kk s l P Q r.1 w'
theorem regP_len (p:PrP) (r:List Rg×Int) (L:PgL):(regP p r L).2.2=[]∧(regP p r L).2.1=r.2:=by
 unfold regP
 split
 · rename_i h;exact ⟨rfl,h.symm⟩
 · exact ⟨rfl,rfl⟩
theorem WB.rs (h:WB w0 w o t C kk (s::l) P Q) (hr:PgRel s C p) {R:List Rg×Int} {e:Ending} (hz:R.2=0→RgsOk s.D R.1∧∀x,findB s.L x=true→findB R.1 x=true) (hp:RsPost (shM o.S) shP w o.d t C kk s.D s.A s.cap s.L s.m s.n R e w'):DePost w0 w t o C kk s l P Q (regP p R p.L) e w':=by
 obtain ⟨he,A',cap',h1,h2⟩:=h.lw.sw.regs hp
 obtain ⟨e1,e2⟩:=regP_len p R p.L
 refine ⟨by rw [e2];exact he,e1,t,C,_,h.sw (h.lw.go h1 h2) h2,rfl,?_,fun _ _=>rfl,h2.off⟩
 unfold regP
 by_cases c:R.2=0
 · rw [if_pos c,if_pos c]
   obtain ⟨g1,g2⟩:=hz c
   exact hr.regs g1 g2
 · rw [if_neg c,if_neg c]
   have:=hr.regs (A:=A') (cap:=cap') hr.rgs (fun _=>id)
   rw [show (⟨s.L,p.L⟩:PrP)=p by rw [hr.R]] at this
   exact this
theorem WB.map (h:WB w0 w o t C kk (s::l) P Q) (hr:PgRel s C p) (hd:ShOk o.D s) (a n q:Int):
 Calls Tryz.prog 16 #[.pointer (some ⟨s.D.X,0,none⟩),.int .i64 a,.int .i64 n,.int .i64 q] w (DePost w0 w t o C kk s l P Q (regP p (mappedF o.D.sd p.R a n q) p.L)):=by
 have g:=h.lw.sw.ss s jM
 refine (ssMap_b g a n q (fun h1 _ h3=>map_dist hr.rgs g.ok h1 h3)).mono ?_
 intro e w' hp
 rw [←hr.R,←hd.map]
 exact h.rs hr (fun hz=>map_right hr.rgs hz) hp
theorem WB.prot (h:WB w0 w o t C kk (s::l) P Q) (hr:PgRel s C p) (hd:ShOk o.D s) (a n q:Int):
 Calls Tryz.prog 118 #[.pointer (some ⟨s.D.X,0,none⟩),.int .i64 a,.int .i64 n,.int .i64 q] w (DePost w0 w t o C kk s l P Q (regP p (protectedF o.D.sd p.R a n q) p.L)):=by
 have g:=h.lw.sw.ss s jM
 refine (ssProt_b g a n q (fun h1 _ _=>prot_dist hr.rgs g.ok h1)).mono ?_
 intro e w' hp
 rw [←hr.R,←hd.prot]
 exact h.rs hr (fun hz=>prot_right hr.rgs hz) hp
theorem WB.unmap (h:WB w0 w o t C kk (s::l) P Q) (hr:PgRel s C p) (hd:ShOk o.D s) (a n:Int):
 Calls Tryz.prog 117 #[.pointer (some ⟨s.D.X,0,none⟩),.int .i64 a,.int .i64 n] w (DePost w0 w t o C kk s l P Q (regP p (unmappedF o.D.sd p.R a n) (p.L.filter fun q=>keepU a n q.1))):=by
 have g:=h.lw.sw.ss s jM
 refine (h.lw.sw.unmap hr.rg a n).mono ?_
 rintro e w' ⟨he,t',C',A',cap',L',m',n',h1,h2,h3,h4,hc⟩
 rw [←hr.R,←hd.unmap]
 obtain ⟨e1,e2⟩:=regP_len p (unmappedF s.D s.L a n) (p.L.filter fun q=>keepU a n q.1)
 refine ⟨by rw [e2];exact he,e1,t',C',_,h.sw (h.lw.go h1 h2) h2,rfl,?_,h4,h2.off⟩
 unfold regP
 rcases hc with ⟨c,rfl,c2⟩|⟨c,rfl,rfl,rfl⟩
 · rw [if_pos c]
   obtain ⟨g1,g2,g3⟩:=unmap_right hr.rgs c
   exact hr.unmap g.ok g1 g3 c2
 · rw [if_neg c]
   have:=hr.regs (A:=A') (cap:=cap') hr.rgs (fun _=>id)
   rw [show (⟨s.L,p.L⟩:PrP)=p by rw [hr.R]] at this
   exact ⟨this.R,this.ok,this.dom,this.ld,⟨this.rg.right,this.rg.len,this.rg.has,this.rg.rng⟩⟩
theorem WB.store {bA:Option Addr} {bc:Nat} {bs:Bytes} (h:WB w0 w o t C (kk+2*bs.length) (s::l) P Q) (hr:PgRel s C p) (hd:ShOk o.D s) (a:Int) (hS:SBy w bA bs.length bs) (hbc:bs.length≤bc) (hbn:bs.length≤9223372036854775807) (hV:VIn (fun g=>g<w.heap.size∧¬Own o.d t g) (.slice bA bs.length bc)):
 Calls Tryz.prog 17 #[.pointer (some ⟨s.D.X,0,none⟩),.int .i64 a,.slice bA bs.length bc] w (DePost w0 w t o C kk s l P Q (if checkF o.D.sd p.R a (bs.length:Nat) 2=0 then (⟨p.R,stL o.D.sd.pg p.L a.toNat bs⟩,0,[]) else (p,checkF o.D.sd p.R a (bs.length:Nat) 2,[]))):=by
 have g:=h.lw.sw.ss s jM
 have hz:0<s.D.pg:=by have:=g.ok.b4;omega
 have hp:=parts_le (a:=a.toNat) (n:=bs.length) hz
 refine (SW.store (k:=kk) shK_good shP_miss a (h.less (by omega)).lw.sw hS hbc hbn hV).mono ?_
 rintro e w' ⟨t',C',m',n',h1,h2,h3,hc⟩
 have h0:=(h.less (k':=kk+2*(partsL s.D.pg a.toNat bs.length).length) (by omega))
 rw [←hr.R,←hd.check]
 have hb:=h0.sw (h0.lw.go h1 h2) h2
 have hpg:o.D.sd.pg=s.D.pg:=hd.2.1.symm
 rcases hc with ⟨c1,he,rfl,rfl,rfl⟩|⟨c1,he,hw⟩|⟨_,c1,_⟩
 · rw [if_neg c1]
   exact ⟨he,rfl,t',C',_,hb,rfl,hr,h3,h2.off⟩
 · rw [if_pos c1,hpg,hr.R]
   refine ⟨he,rfl,t',C',_,hb,rfl,?_,h3,h2.off⟩
   exact hr.store g.ok c1 hw
 · exact absurd h.lw.rm c1
def LdPost16 (w0 w:World) (t:PSt ShS) (o:WD) (C:Cu) (kk:Nat) (s:Spc) (l:List Spc) (P:List (Option MPr)) (Q:List (Option Nat)) (r:PrP×Int×Bytes) (e:Ending) (w':World):Prop:=
 ∃A c,e=.returned (.tuple #[.slice A r.2.2.length c,.int .i64 r.2.1])∧SBy w' A r.2.2.length r.2.2∧DeR w0 w t o C kk s l P Q r.1 w'
theorem WB.load1 (a n:Int) (h:WB w0 w o t C (kk+n.toNat) (s::l) P Q) (hr:PgRel s C p) (hd:ShOk o.D s):
 Calls Tryz.prog 18 #[.pointer (some ⟨s.D.X,0,none⟩),.int .i64 a,.int .i64 n] w (LdPost16 w0 w t o C kk s l P Q (p,checkF o.D.sd p.R a n 1,if checkF o.D.sd p.R a n 1=0 then ldN o.D.sd.pg p.L a.toNat n.toNat else [])):=by
 have g:=h.lw.sw.ss s jM
 have hz:0<s.D.pg:=by have:=g.ok.b4;omega
 have hp:=parts_le (a:=a.toNat) (n:=n.toNat) hz
 refine (SW.load (k:=kk) shK_good shP_miss a n (h.less (by omega)).lw.sw).mono ?_
 rintro e w' ⟨t',h1,h2,_,hc⟩
 have h0:=(h.less (k':=kk+(partsL s.D.pg a.toNat n.toNat).length) (by omega))
 rw [←hr.R,←hd.check]
 have hb:=h0.sw (h0.lw.go h1 h2) h2
 have hpg:o.D.sd.pg=s.D.pg:=hd.2.1.symm
 rcases hc with ⟨c1,he⟩|⟨c1,A',c',he,ho,hq⟩|⟨_,c1,_⟩
 · rw [if_neg c1]
   exact ⟨none,0,he,SBy.nil _ _,t',C,s,hb,rfl,hr,fun _ _=>rfl,h2.off⟩
 · rw [if_pos c1,hpg]
   rw [hr.load] at ho
   refine ⟨A',c',?_,?_,t',C,s,hb,rfl,hr,fun _ _=>rfl,h2.off⟩
   · simp only
     rw [ldN_len,c1]
     exact he
   · simp only
     rw [ldN_len]
     exact ho.part.2.2
 · exact absurd h.lw.rm c1
set_option maxHeartbeats 2000000 in
theorem load_bad {σ:Type} {K:SnkF σ} {M:Snk K} {P:PSnk K} {d:PD} {t:PSt σ} {C:Cu} {D:SpD} {A:Option Addr} {cap n:Nat} {L:List Rg} {m:Int→Option Int} (at_ j:Int) (h:SS M P w d t C kk D A cap L m n) (hz:checkF D L at_ j 1≠0):
 Calls Tryz.prog 18 #[.pointer (some ⟨D.X,0,none⟩),.int .i64 at_,.int .i64 j] w fun e w'=>e=.returned (.tuple #[.slice none 0 0,.int .i64 (checkF D L at_ j 1)])∧Below w.heap.size w w':=by
 have HC:=hJ (check_b h.sp h.ok h.len at_ j 1)
 obtain ⟨z,hzz⟩:∃z,checkF D L at_ j 1=z:=⟨_,rfl⟩
 rw [hzz] at HC hz ⊢
 have hne:(z !=0)=true:=by simpa using hz
 clear h hzz hz
 go_enter Tryz.func18,Tryz.ntmps18
 go_wp2_with (go_at_call 61;refine HC.out.mono ?_;rintro e w1 ⟨rfl,hb1⟩;have HB1:=hJ hb1;clear hb1)
 go_ret2
 exact ⟨rfl,HB1.out⟩
theorem WB.load (a n:Int) {cst:Nat} (hc:checkF o.D.sd p.R a n 1=0→n.toNat≤cst) (h:WB w0 w o t C (kk+cst) (s::l) P Q) (hr:PgRel s C p) (hd:ShOk o.D s):
 Calls Tryz.prog 18 #[.pointer (some ⟨s.D.X,0,none⟩),.int .i64 a,.int .i64 n] w (LdPost16 w0 w t o C kk s l P Q (p,checkF o.D.sd p.R a n 1,if checkF o.D.sd p.R a n 1=0 then ldN o.D.sd.pg p.L a.toNat n.toNat else [])):=by
 by_cases hz:checkF o.D.sd p.R a n 1=0
 · have:=hc hz
   exact WB.load1 a n (h.less (by omega)) hr hd
 · have g:=h.lw.sw.ss s jM
   have e1:checkF s.D s.L a n 1=checkF o.D.sd p.R a n 1:=by rw [hd.check,hr.R]
   refine (load_bad a n g (by rw [e1];exact hz)).mono ?_
   rintro e w' ⟨he,hb⟩
   rw [if_neg hz]
   rw [e1] at he
   exact ⟨none,0,he,SBy.nil _ _,t,C,s,(h.up hb).less (by omega),rfl,hr,fun _ _=>rfl,Off.of_below hb⟩
end
set_option maxRecDepth 100000
section
variable {w0 w w' w1 w2:World} {o:WD} {t t':PSt ShS} {C C':Cu} {kk k:Nat} {l l':List Spc} {P P':List (Option MPr)} {Q:List (Option Nat)} {s:Spc} {p:PrP}
set_option maxHeartbeats 4000000 in
theorem do16_map (pid:Int) (at_ n prot:Int) (A:Option Addr) (m c:Nat) (h:WB w0 w o t C kk (s::l) P Q) (hQ:Q[k]? =some (some s.D.X)) (hr:PgRel s C p) (hd:ShOk o.D s):
 Calls Tryz.prog 72 #[.pointer (some ⟨o.W,0,none⟩),.int .i64 (k:Nat),.agg #[.int .i64 2,.int .i64 pid,.int .i64 at_,.int .i64 n,.int .i64 prot,.slice A m c]] w (LdPost16 w0 w t o C kk s l P Q (regP p (mappedF o.D.sd p.R at_ n prot) p.L)):=by
 have hb0:Below w.heap.size w (w.alloc (.cells #[.int .i64 2,.int .i64 pid,.int .i64 at_,.int .i64 n,.int .i64 prot,.slice A m c] 47)):=jB.alloc jN _
 have hx:=h.up hb0
 have HOF:Hid (∀W (p':PrP),DeR w0 (w.alloc (.cells #[.int .i64 2,.int .i64 pid,.int .i64 at_,.int .i64 n,.int .i64 prot,.slice A m c] 47)) t o C kk s l P Q p' W→DeR w0 w t o C kk s l P Q p' W):=hJ fun W p' ⟨t',C',s',h1,h2,h3,h4,h5⟩=>⟨t',C',s',h1,h2,h3,h4,(Off.of_below hb0).trans h5⟩
 have H:=hJ (hx.map hr hd at_ n prot)
 obtain ⟨r,hR⟩:∃r:PrP×Int×Bytes,(regP p (mappedF o.D.sd p.R at_ n prot) p.L)=r:=⟨_,rfl⟩
 rw [hR] at H ⊢
 clear hR
 obtain ⟨g,hg,lg,hcg,fg⟩:=h.rAt
 have r1:=hcg k _ hQ
 have lQ:=h.lQ
 have hk:k<o.D.n:=by rw [←lQ];exact (jS.1 hQ).1
 have hn64:=h.ma.f.npos
 have lW:=h.ltW
 have c11:=h.c11
 unfold WD.rv at c11
 rw [hg] at c11
 simp only [Option.map_some] at r1
 clear hcg fg h hr hd hQ lQ hx hb0 hg
 go_enter Tryz.func72,Tryz.ntmps72
 go_wp2_with (go_at_call 16;refine H.out.mono ?_;rintro e w1 ⟨rfl,h1,h2⟩;have H1:=hJ h1;have H2:=hJ h2;clear h1 h2)
 go_ret2
 exact ⟨none,0,by rw [H1.out];rfl,by rw [H1.out];exact SBy.nil _ _,HOF.out _ _ H2.out⟩
set_option maxHeartbeats 4000000 in
theorem do16_unmap (pid:Int) (at_ n prot:Int) (A:Option Addr) (m c:Nat) (h:WB w0 w o t C kk (s::l) P Q) (hQ:Q[k]? =some (some s.D.X)) (hr:PgRel s C p) (hd:ShOk o.D s):
 Calls Tryz.prog 72 #[.pointer (some ⟨o.W,0,none⟩),.int .i64 (k:Nat),.agg #[.int .i64 3,.int .i64 pid,.int .i64 at_,.int .i64 n,.int .i64 prot,.slice A m c]] w (LdPost16 w0 w t o C kk s l P Q (regP p (unmappedF o.D.sd p.R at_ n) (p.L.filter fun q=>keepU at_ n q.1))):=by
 have hb0:Below w.heap.size w (w.alloc (.cells #[.int .i64 3,.int .i64 pid,.int .i64 at_,.int .i64 n,.int .i64 prot,.slice A m c] 47)):=jB.alloc jN _
 have hx:=h.up hb0
 have HOF:Hid (∀W (p':PrP),DeR w0 (w.alloc (.cells #[.int .i64 3,.int .i64 pid,.int .i64 at_,.int .i64 n,.int .i64 prot,.slice A m c] 47)) t o C kk s l P Q p' W→DeR w0 w t o C kk s l P Q p' W):=hJ fun W p' ⟨t',C',s',h1,h2,h3,h4,h5⟩=>⟨t',C',s',h1,h2,h3,h4,(Off.of_below hb0).trans h5⟩
 have H:=hJ (hx.unmap hr hd at_ n)
 obtain ⟨r,hR⟩:∃r:PrP×Int×Bytes,(regP p (unmappedF o.D.sd p.R at_ n) (p.L.filter fun q=>keepU at_ n q.1))=r:=⟨_,rfl⟩
 rw [hR] at H ⊢
 clear hR
 obtain ⟨g,hg,lg,hcg,fg⟩:=h.rAt
 have r1:=hcg k _ hQ
 have lQ:=h.lQ
 have hk:k<o.D.n:=by rw [←lQ];exact (jS.1 hQ).1
 have hn64:=h.ma.f.npos
 have lW:=h.ltW
 have c11:=h.c11
 unfold WD.rv at c11
 rw [hg] at c11
 simp only [Option.map_some] at r1
 clear hcg fg h hr hd hQ lQ hx hb0 hg
 go_enter Tryz.func72,Tryz.ntmps72
 go_wp2_with (go_at_call 117;refine H.out.mono ?_;rintro e w1 ⟨rfl,h1,h2⟩;have H1:=hJ h1;have H2:=hJ h2;clear h1 h2)
 go_ret2
 exact ⟨none,0,by rw [H1.out];rfl,by rw [H1.out];exact SBy.nil _ _,HOF.out _ _ H2.out⟩
set_option maxHeartbeats 4000000 in
theorem do16_prot (pid:Int) (at_ n prot:Int) (A:Option Addr) (m c:Nat) (h:WB w0 w o t C kk (s::l) P Q) (hQ:Q[k]? =some (some s.D.X)) (hr:PgRel s C p) (hd:ShOk o.D s):
 Calls Tryz.prog 72 #[.pointer (some ⟨o.W,0,none⟩),.int .i64 (k:Nat),.agg #[.int .i64 4,.int .i64 pid,.int .i64 at_,.int .i64 n,.int .i64 prot,.slice A m c]] w (LdPost16 w0 w t o C kk s l P Q (regP p (protectedF o.D.sd p.R at_ n prot) p.L)):=by
 have hb0:Below w.heap.size w (w.alloc (.cells #[.int .i64 4,.int .i64 pid,.int .i64 at_,.int .i64 n,.int .i64 prot,.slice A m c] 47)):=jB.alloc jN _
 have hx:=h.up hb0
 have HOF:Hid (∀W (p':PrP),DeR w0 (w.alloc (.cells #[.int .i64 4,.int .i64 pid,.int .i64 at_,.int .i64 n,.int .i64 prot,.slice A m c] 47)) t o C kk s l P Q p' W→DeR w0 w t o C kk s l P Q p' W):=hJ fun W p' ⟨t',C',s',h1,h2,h3,h4,h5⟩=>⟨t',C',s',h1,h2,h3,h4,(Off.of_below hb0).trans h5⟩
 have H:=hJ (hx.prot hr hd at_ n prot)
 obtain ⟨r,hR⟩:∃r:PrP×Int×Bytes,(regP p (protectedF o.D.sd p.R at_ n prot) p.L)=r:=⟨_,rfl⟩
 rw [hR] at H ⊢
 clear hR
 obtain ⟨g,hg,lg,hcg,fg⟩:=h.rAt
 have r1:=hcg k _ hQ
 have lQ:=h.lQ
 have hk:k<o.D.n:=by rw [←lQ];exact (jS.1 hQ).1
 have hn64:=h.ma.f.npos
 have lW:=h.ltW
 have c11:=h.c11
 unfold WD.rv at c11
 rw [hg] at c11
 simp only [Option.map_some] at r1
 clear hcg fg h hr hd hQ lQ hx hb0 hg
 go_enter Tryz.func72,Tryz.ntmps72
 go_wp2_with (go_at_call 118;refine H.out.mono ?_;rintro e w1 ⟨rfl,h1,h2⟩;have H1:=hJ h1;have H2:=hJ h2;clear h1 h2)
 go_ret2
 exact ⟨none,0,by rw [H1.out];rfl,by rw [H1.out];exact SBy.nil _ _,HOF.out _ _ H2.out⟩
set_option maxHeartbeats 4000000 in
theorem do16_load (pid:Int) (at_ n prot:Int) (A:Option Addr) (m c:Nat) {cst:Nat} (h:WB w0 w o t C (kk+cst) (s::l) P Q) (hQ:Q[k]? =some (some s.D.X)) (hr:PgRel s C p) (hd:ShOk o.D s) (hc:checkF o.D.sd p.R at_ n 1=0→n.toNat≤cst):
 Calls Tryz.prog 72 #[.pointer (some ⟨o.W,0,none⟩),.int .i64 (k:Nat),.agg #[.int .i64 5,.int .i64 pid,.int .i64 at_,.int .i64 n,.int .i64 prot,.slice A m c]] w (LdPost16 w0 w t o C kk s l P Q (p,checkF o.D.sd p.R at_ n 1,if checkF o.D.sd p.R at_ n 1=0 then ldN o.D.sd.pg p.L at_.toNat n.toNat else [])):=by
 have hb0:Below w.heap.size w (w.alloc (.cells #[.int .i64 5,.int .i64 pid,.int .i64 at_,.int .i64 n,.int .i64 prot,.slice A m c] 47)):=jB.alloc jN _
 have hx:=h.up hb0
 have HOF:Hid (∀W (p':PrP),DeR w0 (w.alloc (.cells #[.int .i64 5,.int .i64 pid,.int .i64 at_,.int .i64 n,.int .i64 prot,.slice A m c] 47)) t o C kk s l P Q p' W→DeR w0 w t o C kk s l P Q p' W):=hJ fun W p' ⟨t',C',s',h1,h2,h3,h4,h5⟩=>⟨t',C',s',h1,h2,h3,h4,(Off.of_below hb0).trans h5⟩
 have H:=hJ (WB.load at_ n hc hx hr hd)
 obtain ⟨r,hR⟩:∃r:PrP×Int×Bytes,(p,checkF o.D.sd p.R at_ n 1,if checkF o.D.sd p.R at_ n 1=0 then ldN o.D.sd.pg p.L at_.toNat n.toNat else [])=r:=⟨_,rfl⟩
 rw [hR] at H ⊢
 clear hR
 obtain ⟨g,hg,lg,hcg,fg⟩:=h.rAt
 have r1:=hcg k _ hQ
 have lQ:=h.lQ
 have hk:k<o.D.n:=by rw [←lQ];exact (jS.1 hQ).1
 have hn64:=h.ma.f.npos
 have lW:=h.ltW
 have c11:=h.c11
 unfold WD.rv at c11
 rw [hg] at c11
 simp only [Option.map_some] at r1
 clear hcg fg h hr hd hQ lQ hx hb0 hg hc
 go_enter Tryz.func72,Tryz.ntmps72
 go_wp2_with (go_at_call 18;refine H.out.mono ?_;rintro e w1 ⟨A',c',rfl,h1,h2⟩;have H1:=hJ h1;have H2:=hJ h2;clear h1 h2)
 go_ret2
 exact ⟨A',c',rfl,H1.out,HOF.out _ _ H2.out⟩
set_option maxHeartbeats 4000000 in
theorem do16_store (pid:Int) (at_ n prot:Int) {A:Option Addr} (c:Nat) {bs:Bytes} (h:WB w0 w o t C (kk+2*bs.length) (s::l) P Q) (hQ:Q[k]? =some (some s.D.X)) (hr:PgRel s C p) (hd:ShOk o.D s) (hS:SBy w A bs.length bs) (hbc:bs.length≤c) (hbn:bs.length≤9223372036854775807) (hV:VIn (fun g=>g<w.heap.size∧¬Own o.d t g) (.slice A bs.length c)):
 Calls Tryz.prog 72 #[.pointer (some ⟨o.W,0,none⟩),.int .i64 (k:Nat),.agg #[.int .i64 6,.int .i64 pid,.int .i64 at_,.int .i64 n,.int .i64 prot,.slice A bs.length c]] w (LdPost16 w0 w t o C kk s l P Q (if checkF o.D.sd p.R at_ (bs.length:Nat) 2=0 then (⟨p.R,stL o.D.sd.pg p.L at_.toNat bs⟩,0,[]) else (p,checkF o.D.sd p.R at_ (bs.length:Nat) 2,[]))):=by
 have hb0:Below w.heap.size w (w.alloc (.cells #[.int .i64 6,.int .i64 pid,.int .i64 at_,.int .i64 n,.int .i64 prot,.slice A bs.length c] 47)):=jB.alloc jN _
 have hx:=h.up hb0
 have HOF:Hid (∀W (p':PrP),DeR w0 (w.alloc (.cells #[.int .i64 6,.int .i64 pid,.int .i64 at_,.int .i64 n,.int .i64 prot,.slice A bs.length c] 47)) t o C kk s l P Q p' W→DeR w0 w t o C kk s l P Q p' W):=hJ fun W p' ⟨t',C',s',h1,h2,h3,h4,h5⟩=>⟨t',C',s',h1,h2,h3,h4,(Off.of_below hb0).trans h5⟩
 have H:=hJ (WB.store hx hr hd at_ (hS.up hb0) hbc hbn (hV.mono fun g hg=>⟨Nat.lt_of_lt_of_le hg.1 hb0.size,hg.2⟩))
 obtain ⟨r,hR⟩:∃r:PrP×Int×Bytes,(if checkF o.D.sd p.R at_ (bs.length:Nat) 2=0 then (⟨p.R,stL o.D.sd.pg p.L at_.toNat bs⟩,0,[]) else (p,checkF o.D.sd p.R at_ (bs.length:Nat) 2,[]))=r:=⟨_,rfl⟩
 rw [hR] at H ⊢
 clear hR
 obtain ⟨g,hg,lg,hcg,fg⟩:=h.rAt
 have r1:=hcg k _ hQ
 have lQ:=h.lQ
 have hk:k<o.D.n:=by rw [←lQ];exact (jS.1 hQ).1
 have hn64:=h.ma.f.npos
 have lW:=h.ltW
 have c11:=h.c11
 unfold WD.rv at c11
 rw [hg] at c11
 simp only [Option.map_some] at r1
 clear hcg fg h hr hd hQ lQ hx hb0 hg hS hV
 go_enter Tryz.func72,Tryz.ntmps72
 go_wp2_with (go_at_call 17;refine H.out.mono ?_;rintro e w1 ⟨rfl,h1,h2⟩;have H1:=hJ h1;have H2:=hJ h2;clear h1 h2)
 go_ret2
 exact ⟨none,0,by rw [H1.out];rfl,by rw [H1.out];exact SBy.nil _ _,HOF.out _ _ H2.out⟩
end
set_option maxRecDepth 100000
def StR16 (w0:World) (o:WD) (kk U:Nat) (sp:List (Option Spc)) (w':World):Prop:=
 ∃t' C' sp' P',WS w0 w' o t' C' kk U sp' P'∧((∃s,sp[0]? =some (some s))→∃s,sp'[0]? =some (some s))
def StPost16 (w0:World) (o:WD) (kk U:Nat) (sp:List (Option Spc)) (e:Ending) (w':World):Prop:=e=.returned (.bool true)∧StR16 w0 o kk U sp w'
theorem WS.up {w0 w w':World} {o:WD} {t:PSt ShS} {C:Cu} {kk U:Nat} {sp:List (Option Spc)} {P:List (Option MPr)} (h:WS w0 w o t C kk U sp P) (hb:Below w.heap.size w w'):WS w0 w' o t C kk U sp P:=⟨h.b.up hb,h.r,h.few⟩
theorem WS.less {w0 w:World} {o:WD} {t:PSt ShS} {C:Cu} {kk kk' U U':Nat} {sp:List (Option Spc)} {P:List (Option MPr)} (h:WS w0 w o t C kk U sp P) (hk:kk'≤kk) (hu:U≤U'):WS w0 w o t C kk' U' sp P:=⟨h.b.less hk,h.r,fun p hp=>Nat.le_trans (h.few p hp) hu⟩
theorem WS.str {w0 w:World} {o:WD} {t:PSt ShS} {C:Cu} {kk kk' U U':Nat} {sp:List (Option Spc)} {P:List (Option MPr)} (h:WS w0 w o t C kk U sp P) (hk:kk'≤kk) (hu:U≤U'):StR16 w0 o kk' U' sp w:=⟨t,C,sp,P,h.less hk hu,id⟩
theorem WS.len {w0 w:World} {o:WD} {t:PSt ShS} {C:Cu} {kk U:Nat} {sp:List (Option Spc)} {P:List (Option MPr)} (h:WS w0 w o t C kk U sp P):sp.length=o.D.n:=by
 have:=h.b.lQ
 unfold qS at this
 simpa using this
structure AcAt (w:World) (b:Nat) (sp kind pid at_ n prot:Int) (d:Value):Prop where
 c0:w.cell? ⟨b,0,none⟩=some (.int .i64 sp)
 c1:w.cell? ⟨b,1,none⟩=some (.int .i64 kind)
 c2:w.cell? ⟨b,2,none⟩=some (.int .i64 pid)
 c3:w.cell? ⟨b,3,none⟩=some (.int .i64 at_)
 c4:w.cell? ⟨b,4,none⟩=some (.int .i64 n)
 c5:w.cell? ⟨b,5,none⟩=some (.int .i64 prot)
 c6:w.cell? ⟨b,6,none⟩=some d
theorem AcAt.new (w:World) (sp kind pid at_ n prot:Int) (d:Value) (T:TypeId):AcAt (w.alloc (.cells #[.int .i64 sp,.int .i64 kind,.int .i64 pid,.int .i64 at_,.int .i64 n,.int .i64 prot,d] T)) w.heap.size sp kind pid at_ n prot d:=by
 have hn:=heap_alloc_new w (.cells #[.int .i64 sp,.int .i64 kind,.int .i64 pid,.int .i64 at_,.int .i64 n,.int .i64 prot,d] T)
 have hc:∀i v,(#[.int .i64 sp,.int .i64 kind,.int .i64 pid,.int .i64 at_,.int .i64 n,.int .i64 prot,d]:Array Value)[i]? =some v→(w.alloc (.cells #[.int .i64 sp,.int .i64 kind,.int .i64 pid,.int .i64 at_,.int .i64 n,.int .i64 prot,d] T)).cell? ⟨w.heap.size,i,none⟩=some v:=fun i v hv=>by
  rw [cell_of_row _ _ _ _ _ _ hn];exact hv
 exact ⟨hc 0 _ rfl,hc 1 _ rfl,hc 2 _ rfl,hc 3 _ rfl,hc 4 _ rfl,hc 5 _ rfl,hc 6 _ rfl⟩
section
variable {w0 w w' w1 w2:World} {o:WD} {t t':PSt ShS} {C C':Cu} {kk k U:Nat} {sp:List (Option Spc)} {P P':List (Option MPr)}
theorem WS.evict {cst:Nat} (h:WS w0 w o t C (kk+(o.d.n+1)) U sp P) (n:Int) (hU:U≤cst):Calls Tryz.prog 47 #[.pointer (some ⟨o.d.Q,0,none⟩),.int .i64 n] w fun e w'=>∃v:Int,e=.returned (.int .i64 v)∧StPost16 w0 o kk cst sp (.returned (.bool true)) w':=by
 refine (h.b.lw.sw.evict (k:=kk) shK_good shP_miss n).mono ?_
 rintro e w' ⟨v,rfl,t',h1,h2,_,_⟩
 have hb:=h.b.less (k':=kk) (by omega)
 exact ⟨v,rfl,rfl,t',C,sp,P,⟨hb.sw (hb.lw.go h1 h2) h2,h.r,fun p hp=>Nat.le_trans (h.few p hp) hU⟩,id⟩
end
end Go.Proofs.YtlhfjaagkgengaaGreat
