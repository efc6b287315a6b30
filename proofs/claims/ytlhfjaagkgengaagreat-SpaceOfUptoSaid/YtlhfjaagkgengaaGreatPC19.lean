/- A space: fresh, walked. A space: Store's plain half: which pages are made, what becomes of all. A range over a map that the loop does not write. -/
import Derived.Test.YtlhfjaagkgengaaGreatPC18
import Derived.Test.YtlhfjaagkgengaaGreatPC00
import Derived.Maps.RangeRun
namespace Go.Proofs.YtlhfjaagkgengaaGreat
set_option maxRecDepth 100000
set_option maxHeartbeats 8000000
open Go.RowKit Go.Maps
set_option linter.unusedVariables false
set_option linter.unusedSimpArgs false
section
variable {σ:Type} {K:SnkF σ} {M:Snk K} {P:PSnk K} {w w' w1 w2 wr:World} {d:PD} {t t' t1 t2:PSt σ} {C C':Cu} {k k1 k2:Nat} {D:SpD} {A:Option Addr} {cap n:Nat} {L:List Rg} {m:Int→Option Int}
theorem fresh_b (hK:K.Good) (hmi:P.Miss) (h:SS M P w d t C (k+2) D A cap L m n) {xp xo xn:Nat} (hx:1≤xn∧xo+xn≤D.pg∧xp≤300000000) {bA:Option Addr} {bc:Nat} {b:Bytes} (hS:SBy w bA xn b) (hbc:xn≤bc) (hV:VIn (fun g=>g<w.heap.size∧¬Own d t g) (.slice bA xn bc)):
 Calls Tryz.prog 63 #[.pointer (some ⟨D.X,0,none⟩),.agg #[.int .i64 (xp:Nat),.int .i64 (xo:Nat),.int .i64 (xn:Nat)],.slice bA xn bc] w (FsPost M P w d t C k D A cap L m n ⟨xp,xo,xn⟩ b):=by
 have H:=hJ h
 have HKG:=hJ hK
 have HMI:=hJ hmi
 have HS:=hJ hS
 have HV:=hJ hV
 have hD:=h.ok
 have hb4:=hD.b4
 have HZQ:=hJ (And.intro h.z h.q)
 have HWL:Hid (∀g,spO D A L.length g→g<w.heap.size):=hJ fun g hg=>h.sp.lt hg
 have hez:(P.ez !=0)=true:=by simp [P.ez0]
 obtain ⟨ez,hze⟩:∃z,P.ez=z:=⟨_,rfl⟩
 rw [hze] at hez
 have HEZ:=hJ hze
 clear h hK hmi hS hV hze
 go_enter Tryz.func63,Tryz.ntmps63
 go_upto_region 1 with (fail)
 refine wp_forget (fun V=>Below w.heap.size w V∧Rg3 V w.heap.size (xp:Nat) (xo:Nat) (xn:Nat)) ⟨jB.alloc jN _,Rg3.new w (xp:Nat) (xo:Nat) (xn:Nat) 120⟩ ?_
 rintro V ⟨hb,hr3⟩
 obtain ⟨b4,hb4e⟩:∃g,w.heap.size=g:=⟨_,rfl⟩
 rw [hb4e] at hr3
 rw [hb4e]
 have HB4:=hJ hb4e
 have hsv:=H.out.up hb
 have HB:=hJ hb
 have HR3:=hJ hr3
 have s11:=hsv.sp.c11
 have lX:=hsv.sp.ltX
 have y0:=hr3.c0
 have hlk:=fun nq=>(hsv.up (below_drewN (Below.refl _ V) nq)).look hx.2.2 true
 simp only at hlk
 clear hb hr3 hsv hb4e
 cases hm:m (xp:Nat) with
 | none=>
   rw [hm] at hlk
   simp only [if_true] at hlk
   go_upto_region 1 with (fail)
   go_quiet (fail)
   go_upto_region 2 with (fail)
   refine wp_forget (fun W=>Below w.heap.size w W∧Rg3 W b4 (xp:Nat) (xo:Nat) (xn:Nat)) ⟨HB.out.trans ((below_drewN (Below.refl _ V) nq).mono HB.out.size),HR3.out.up (below_drewN (Below.refl _ V) nq)⟩ ?_
   rintro W ⟨hbw,hr3⟩
   have HBW:=hJ hbw
   have HR4:=hJ hr3
   have c4:=(H.out.up hbw).sp.page hD
   have lX2:=lt_of_cell c4
   have hmk:=run_make_bytes D.pg (by omega) W
   have HZM:=hJ (FrB.zmade W D.pg (by omega))
   clear hbw hr3 s11 lX y0 hlk
   go_upto_region 10 with (fail)
   refine wp_forget (fun W2=>FsI M P w W2 d t t C (k+2) D A cap L m n b4 W.heap.size D.pg ⟨xp,xo,xn⟩ (zeros D.pg) bA bc b) ?_ ?_
   · obtain ⟨B',c',e',hby,hB'⟩:=HZM.out.fresh (w0:=W) (by omega) jN
     cases e'
     have hb2:=HBW.out.trans (HZM.out.bel.mono HBW.out.size)
     have hws:=HBW.out.size
     have hbe:=HB4.out
     have hl4:=lt_of_cell HR4.out.c0
     refine ⟨H.out.up hb2,Nx.refl.up hb2,rfl,rfl,hby,⟨by omega,fun ho=>by have:=H.out.pv.lt ho;omega⟩,HR4.out.up HZM.out.bel,⟨by omega,fun ho=>by have:=H.out.pv.lt ho;omega,by omega⟩,HS.out.up hb2,HV.out,⟨hx.1,hx.2.1⟩⟩
   intro W2 hfs
   obtain ⟨B,hBe⟩:∃g,W.heap.size=g:=⟨_,rfl⟩
   rw [hBe] at hfs
   rw [hBe]
   have HFS:=hJ hfs
   have x1:=hfs.box.c1
   have lx:=lt_of_cell x1
   have hby:=hfs.by_
   have hsb:=hfs.sb
   have HBY:=hJ hby
   have HSB:=hJ hsb
   have i1:(xo:Int)≤(D.pg:Int):=by omega
   have i2:(0:Int)≤(xo:Int):=by omega
   have i3:xo≠D.pg:=by omega
   clear hfs hby hsb hBe HZM hmk c4 lX2 HR4 HBW
   go_upto_region 11 with (with_reducible refine wpList_copy_by rfl (.tmp 68) (.tmp 69) rfl rfl rfl HBY.out hb4.1 HSB.out hx.2.1 rfl (fun _=>rfl) ?_;intro w2 hby2 ho2)
   have hcm:(zeros D.pg).length=D.pg:=zeros_length _
   have hmem:memF D.pg C m xp=zeros D.pg:=by unfold memF;rw [hm]
   have HFS2:=hJ (HFS.out.copy HWL.out hby2 ho2)
   have HE:=hJ (fs_done HKG.out HMI.out HFS2.out (by rw [setB_len (by rw [hcm,HSB.out.1];exact hx.2.1)];exact hcm) (by unfold skipB;rw [hm]) (by rw [hmem]) HEZ.out)
   have s9:=HFS2.out.ss.sp.c9
   rw [HZQ.out.2] at s9
   have lX3:=HFS2.out.ss.sp.ltX
   clear hby2 ho2 hcm hmem HFS HBY HSB x1 lx i1 i2 i3 HFS2
   go_upto_region 12 with (go_at_call 105;go_loud (refine HE.out.mono ?_;rintro e w5 ⟨rfl,hsp,hw⟩;have HW:=hJ hw;have r9:=hsp.c9;have lX4:=hsp.ltX;rw [HZQ.out.2] at r9;clear hsp hw))
   clear s9 lX3 HE
   go_wp2_with fail
   refine HW.out.mono ?_
   rintro e w6 (⟨rfl,hp⟩|⟨rfl,hsp6,hdp⟩)
   · have HP:=hJ hp
     clear hp HW
     go_wp2
     go_ret2
     exact HP.out
   · have HDP:=hJ hdp
     have q9:=hsp6.c9
     rw [HZQ.out.2] at q9
     have lX6:=hsp6.ltX
     clear hsp6 hdp HW
     go_wp2_with (go_at_call 64;go_loud (refine HDP.out.mono ?_;rintro e w7 ⟨rfl,hp⟩;have HP:=hJ hp;clear hp))
     go_ret2
     exact HP.out
 | some id=>
   rw [hm] at hlk
   simp only [if_true] at hlk
   obtain ⟨⟨pb,pu⟩,hC⟩:=H.out.has _ id hm
   have hmem:memF D.pg C m xp=pb:=by unfold memF;rw [hm];simp only [hC]
   have hskip:skipB C m ⟨xp,xo,xn⟩ b=(decide (pu≤1) && decide (secP pb xo xn=b)):=by unfold skipB;simp only [hm,hC]
   have HMS:=hJ (And.intro hmem hskip)
   have HCI:=hJ hC
   clear hmem hskip hC hm
   go_upto_region 1 with (fail)
   go_quiet (fail)
   go_upto_region 2 with (fail)
   refine wp_forget (fun W=>Below w.heap.size w W∧Rg3 W b4 (xp:Nat) (xo:Nat) (xn:Nat)) ⟨HB.out.trans ((below_drewN (Below.refl _ V) nq).mono HB.out.size),HR3.out.up (below_drewN (Below.refl _ V) nq)⟩ ?_
   rintro W ⟨hbw,hr3⟩
   have HBW:=hJ hbw
   have HR4:=hJ hr3
   have c4:=(H.out.up hbw).sp.page hD
   have lX2:=lt_of_cell c4
   have hmk:=run_make_bytes D.pg (by omega) W
   have HZM:=hJ (FrB.zmade W D.pg (by omega))
   clear hbw hr3 s11 lX y0 hlk
   go_upto_region 4 with (fail)
   refine wp_forget (fun W2=>Below w.heap.size w W2∧Rg3 W2 b4 (xp:Nat) (xo:Nat) (xn:Nat)) ⟨HBW.out.trans (HZM.out.bel.mono HBW.out.size),HR4.out.up HZM.out.bel⟩ ?_
   rintro W2 ⟨hbw2,hr5⟩
   have HBW2:=hJ hbw2
   have HR5:=hJ hr5
   have hs2:=H.out.up hbw2
   have s9:=hs2.sp.c9
   rw [HZQ.out.2] at s9
   have lX3:=hs2.sp.ltX
   have HPK:=hJ (pv_peek HKG.out HMI.out hs2.pv HCI.out)
   clear hbw2 hr5 hs2 HZM hmk c4 lX2 HR4 HBW
   go_upto_region 5 with (go_at_call 102;go_loud (refine HPK.out.mono ?_;rintro e w5 ⟨t5,v5,rfl,hv5,hx5,e51,e52,e53,hf5⟩))
   obtain ⟨B,c,rfl,hby,hB⟩:=hf5
   have hsz5:=hx5.off.size
   have hno5:∀g,w.heap.size≤g→¬Own d t5 g:=fun g hg ho=>by have:=H.out.pv.lt ((e53 g).1 ho);omega
   have hs5:=(H.out.up HBW2.out).pg hv5 hx5 H.out.has
   have hfs:FsI M P w w5 d t t5 C (k+2) D A cap L m n b4 B c ⟨xp,xo,xn⟩ pb bA bc b:=by
    have hbs:=HBW2.out.size
    have hbe:=HB4.out
    have hl4:=lt_of_cell HR5.out.c0
    have hS2:=HS.out.up HBW2.out
    have hno2:∀g,w.heap.size≤g→¬Own d t g:=fun g hg ho=>by have:=H.out.pv.lt ho;omega
    refine ⟨hs5,(Nx.refl.up HBW2.out).trans hx5,e51,e52,by rw [HZQ.out.1];exact hby,⟨by omega,hno5 _ (by omega)⟩,HR5.out.off hx5.off (hno2 _ (by omega)),⟨by omega,hno5 _ (by omega),by omega⟩,hS2.off hx5.off (fun g o e=>?_),HV.out.mono (fun g hg=>⟨hg.1,fun ho=>hg.2 ((e53 g).1 ho)⟩),⟨hx.1,hx.2.1⟩⟩
    exact (HV.out g o xn bc (by rw [e]) hx.1).2
   have HFS:=hJ hfs
   have HSH:=hJ (pv_shared hs5.pv HCI.out)
   have s9':=hs5.sp.c9
   rw [HZQ.out.2] at s9'
   have lX5:=hs5.sp.ltX
   have x1:=hfs.box.c1
   have x2:=hfs.box.c2
   simp only at x1 x2
   have lx:=lt_of_cell x1
   have hcap:=hby.cap
   rw [←HZQ.out.1] at hcap
   have HBY:=hJ hfs.by_
   rw [←HZQ.out.1]
   clear hfs hs5 hno5 hv5 hx5 e51 e52 e53 hby hB hsz5 s9 lX3 HPK HR5 HBW2
   by_cases h1:1<pu
   · rw [decide_eq_true h1] at HSH
     go_upto_region 10 with (go_at_call 103;go_loud (refine HSH.out.mono ?_;rintro e w5 ⟨rfl,rfl⟩))
     have i1:(xo:Int)≤(D.pg:Int):=by omega
     have i2:(0:Int)≤(xo:Int):=by omega
     have i3:xo≠D.pg:=by omega
     have HSB:=hJ HFS.out.sb
     go_upto_region 11 with (with_reducible refine wpList_copy_by rfl (.tmp 68) (.tmp 69) rfl rfl rfl HBY.out hb4.1 HSB.out hx.2.1 rfl (fun _=>rfl) ?_;intro w2 hby2 ho2)
     have HFS2:=hJ (HFS.out.copy HWL.out hby2 ho2)
     have HE:=hJ (fs_done HKG.out HMI.out HFS2.out (by rw [setB_len (by rw [HBY.out.len,HSB.out.1];exact hx.2.1)];exact HBY.out.len) (by rw [HMS.out.2];simp;omega) (by rw [HMS.out.1]) HEZ.out)
     have s9:=HFS2.out.ss.sp.c9
     rw [HZQ.out.2] at s9
     have lX3:=HFS2.out.ss.sp.ltX
     clear hby2 ho2 HFS HBY HSB x1 x2 lx i1 i2 i3 HFS2 s9' lX5 HSH
     go_upto_region 12 with (go_at_call 105;go_loud (refine HE.out.mono ?_;rintro e w5 ⟨rfl,hsp,hw⟩;have HW:=hJ hw;have r9:=hsp.c9;have lX4:=hsp.ltX;rw [HZQ.out.2] at r9;clear hsp hw))
     clear s9 lX3 HE
     go_wp2_with fail
     refine HW.out.mono ?_
     rintro e w6 (⟨rfl,hp⟩|⟨rfl,hsp6,hdp⟩)
     · have HP:=hJ hp
       clear hp HW
       go_wp2
       go_ret2
       exact HP.out
     · have HDP:=hJ hdp
       have q9:=hsp6.c9
       rw [HZQ.out.2] at q9
       have lX6:=hsp6.ltX
       clear hsp6 hdp HW
       go_wp2_with (go_at_call 64;go_loud (refine HDP.out.mono ?_;rintro e w7 ⟨rfl,hp⟩;have HP:=hJ hp;clear hp))
       go_ret2
       exact HP.out
   · rw [decide_eq_false h1] at HSH
     have HEQ:=hJ (equal_any w5 (some ⟨B,xo,none⟩) bA xn (c-xo) xn bc _ _ (HBY.out.part hx.2.1 hb4.1) HFS.out.sb)
     have i1:(xo:Int)≤((xo+xn:Nat):Int):=by omega
     have i2:((xo+xn:Nat):Int)≤(c:Int):=by omega
     have i4:IntKind.i64.wrap ((xo:Int)+(xn:Int))=((xo+xn:Nat):Int):=by rw [IntWalk.i64_in _ (by omega)];omega
     have i5:(0:Int)≤(xo:Int):=by omega
     have i6:xo≠c:=by omega
     obtain ⟨q,hq⟩:∃q,decide (secP pb xo xn=b)=q:=⟨_,rfl⟩
     have HQ:=hJ hq
     rw [hq] at HEQ
     clear hq
     cases q with
     | true=>
       go_wp2_with (first|(go_at_call 103;go_loud (refine HSH.out.mono ?_;rintro e w5 ⟨rfl,rfl⟩))|(go_at_call 104;go_loud (refine HEQ.out.mono ?_;rintro e w5 ⟨rfl,rfl⟩)))
       go_ret2
       have hsk:skipB C m ⟨xp,xo,xn⟩ b=true:=by rw [HMS.out.2,HQ.out,decide_eq_true (by omega)];rfl
       exact ⟨t5,HFS.out.nx,.inl ⟨hsk,rfl,HFS.out.ss.less HKG.out (by omega),HFS.out.e1,HFS.out.e2⟩⟩
     | false=>
       go_upto_region 10 with (first|(go_at_call 103;go_loud (refine HSH.out.mono ?_;rintro e w5 ⟨rfl,rfl⟩))|(go_at_call 104;go_loud (refine HEQ.out.mono ?_;rintro e w5 ⟨rfl,rfl⟩)))
       have j1:(xo:Int)≤(D.pg:Int):=by omega
       have j2:(0:Int)≤(xo:Int):=by omega
       have j3:xo≠D.pg:=by omega
       have HSB:=hJ HFS.out.sb
       go_upto_region 11 with (with_reducible refine wpList_copy_by rfl (.tmp 68) (.tmp 69) rfl rfl rfl HBY.out hb4.1 HSB.out hx.2.1 rfl (fun _=>rfl) ?_;intro w2 hby2 ho2)
       have HFS2:=hJ (HFS.out.copy HWL.out hby2 ho2)
       have HE:=hJ (fs_done HKG.out HMI.out HFS2.out (by rw [setB_len (by rw [HBY.out.len,HSB.out.1];exact hx.2.1)];exact HBY.out.len) (by rw [HMS.out.2,HQ.out,Bool.and_false]) (by rw [HMS.out.1]) HEZ.out)
       have s9:=HFS2.out.ss.sp.c9
       rw [HZQ.out.2] at s9
       have lX3:=HFS2.out.ss.sp.ltX
       clear hby2 ho2 HFS HBY HSB x1 x2 lx j1 j2 j3 HFS2 s9' lX5 HSH HEQ
       go_upto_region 12 with (go_at_call 105;go_loud (refine HE.out.mono ?_;rintro e w5 ⟨rfl,hsp,hw⟩;have HW:=hJ hw;have r9:=hsp.c9;have lX4:=hsp.ltX;rw [HZQ.out.2] at r9;clear hsp hw))
       clear s9 lX3 HE
       go_wp2_with fail
       refine HW.out.mono ?_
       rintro e w6 (⟨rfl,hp⟩|⟨rfl,hsp6,hdp⟩)
       · have HP:=hJ hp
         clear hp HW
         go_wp2
         go_ret2
         exact HP.out
       · have HDP:=hJ hdp
         have q9:=hsp6.c9
         rw [HZQ.out.2] at q9
         have lX6:=hsp6.ltX
         clear hsp6 hdp HW
         go_wp2_with (go_at_call 64;go_loud (refine HDP.out.mono ?_;rintro e w7 ⟨rfl,hp⟩;have HP:=hJ hp;clear hp))
         go_ret2
         exact HP.out
end
set_option maxRecDepth 100000
set_option maxHeartbeats 8000000
structure Mk3 where
 p:Nat
 id:Nat
 b:Bytes
def mkF (z:Nat) (C:Cu) (m:Int→Option Int):Nat→List Pt→Bytes→List Mk3
 |_,[],_=>[]
 |nx,x::ps,b=>if skipB C m x (b.take x.n)=true then mkF z C m nx ps (b.drop x.n) else ⟨x.p,nx,setB (memF z C m x.p) x.o (b.take x.n)⟩::mkF z C m (nx+1) ps (b.drop x.n)
def addC (C:Cu):List Mk3→Cu
 |[]=>C
 |e::l=>addC (updU C (e.id:Int) (some (e.b,0))) l
def mkM:List Mk3→Int→Option Int
 |[],_=>none
 |e::l,i=>(mkM l i).or (if i=(e.p:Int) then some (e.id:Int) else none)
theorem mkM_snoc (l:List Mk3) (e:Mk3):mkM (l ++ [e])=updM (mkM l) (e.p:Int) (some (e.id:Int)):=by
 funext i
 unfold updM
 induction l with
 | nil=>
   simp only [List.nil_append,mkM,Option.none_or]
 | cons y l ih=>
   rw [List.cons_append,mkM,ih]
   by_cases h:i=(e.p:Int)
   · rw [if_pos h,if_pos h];rfl
   · rw [if_neg h,if_neg h,mkM]
theorem addC_snoc (C:Cu) (l:List Mk3) (e:Mk3):addC C (l ++ [e])=updU (addC C l) (e.id:Int) (some (e.b,0)):=by
 induction l generalizing C with
 |nil=>rfl
 |cons y l ih=>rw [List.cons_append,addC,ih,addC]
theorem addC_old (C:Cu):∀(l:List Mk3) (i:Int),(∀e∈l,(e.id:Int)≠i)→addC C l i=C i
 |[],_,_=>rfl
 | e::l,i,h=>by
   rw [addC,addC_old _ l i (fun y hy=>h y (jP hy)),updU_ne _ _ (fun e2=>h e jM e2.symm)]
theorem mkM_some:∀(l:List Mk3) (i j:Int),mkM l i=some j→∃e∈l,i=(e.p:Int)∧j=(e.id:Int)
 |[],_,_,h=>by cases h
 | e ::l,i,j,h=>by
   rw [mkM] at h
   cases hm:mkM l i with
   | some k=>
     rw [hm] at h
     cases h
     obtain ⟨y,hy,e1⟩:=mkM_some l i j hm
     exact ⟨y,List.mem_cons_of_mem _ hy,e1⟩
   | none=>
     rw [hm,Option.none_or] at h
     split at h
     · rename_i e1
       cases h
       exact ⟨e,jM,e1,rfl⟩
     · cases h
theorem mkM_mem:∀(l:List Mk3),l.Pairwise (fun x y=>x.p<y.p)→∀e∈l,mkM l (e.p:Int)=some (e.id:Int)
 |[],_,e,he=>by cases he
 | y ::l,hp,e,he=>by
   obtain ⟨h1,h2⟩:=List.pairwise_cons.1 hp
   rw [mkM]
   rcases List.mem_cons.1 he with rfl|he
   · cases hm:mkM l (e.p:Int) with
     | some k=>
       obtain ⟨y,hy,e1,_⟩:=mkM_some l _ _ hm
       have:=h1 y hy
       omega
     |none=>rw [Option.none_or,if_pos rfl]
   · rw [mkM_mem l h2 e he];rfl
theorem addC_mem:∀(C:Cu) (l:List Mk3),l.Pairwise (fun x y=>x.id<y.id)→∀e∈l,addC C l (e.id:Int)=some (e.b,0)
 |_,[],_,e,he=>by cases he
 | C,y::l,hp,e,he=>by
   obtain ⟨h1,h2⟩:=List.pairwise_cons.1 hp
   rw [addC]
   rcases List.mem_cons.1 he with rfl|he
   · rw [addC_old _ l _ (fun z hz=>by have:=h1 z hz;omega),updU_same]
   · exact addC_mem _ l h2 e he
theorem partsN_pair (z:Nat) (hz:0<z):∀(f a n:Nat),(partsN z f a n).Pairwise (fun x y=>x.p<y.p)
 |0,_,_=>List.Pairwise.nil
 | f + 1,a,n=>by
   have hm:=Nat.mod_lt a hz
   have hdm:=Nat.div_add_mod a z
   unfold partsN
   split
   · exact List.Pairwise.nil
   · refine List.pairwise_cons.2 ⟨fun y hy=>?_,partsN_pair z hz f _ _⟩
     by_cases h2:n≤z-a%z
     · have hnil:∀f a,partsN z f a 0=[]:=fun f a=>by cases f<;>simp [partsN]
       rw [show n-min n (z-a%z)=0 by omega,hnil] at hy
       cases hy
     · obtain ⟨_,_,_,h4,_⟩:=partsN_in z hz f _ _ y hy
       have e:a+min n (z-a%z)=(a / z+1)*z:=by
        rw [Nat.add_mul,Nat.one_mul,Nat.mul_comm]
        omega
       rw [e,Nat.mul_div_cancel _ hz] at h4
       simp only
       omega
theorem mkF_mem (z:Nat) (C:Cu) (m:Int→Option Int):∀(ps:List Pt) (nx:Nat) (b:Bytes) (e:Mk3),e∈mkF z C m nx ps b→nx≤e.id∧∃x∈ps,e.p=x.p
 |[],_,_,_,h=>by cases h
 | x ::ps,nx,b,e,h=>by
   rw [mkF] at h
   split at h
   · obtain ⟨h1,y,hy,e1⟩:=mkF_mem z C m ps _ _ e h
     exact ⟨h1,y,List.mem_cons_of_mem _ hy,e1⟩
   · rcases List.mem_cons.1 h with rfl|h
     · exact ⟨Nat.le_refl _,x,jM,rfl⟩
     · obtain ⟨h1,y,hy,e1⟩:=mkF_mem z C m ps _ _ e h
       exact ⟨by omega,y,List.mem_cons_of_mem _ hy,e1⟩
theorem mkF_ids (z:Nat) (C:Cu) (m:Int→Option Int):∀(ps:List Pt) (nx:Nat) (b:Bytes),(mkF z C m nx ps b).Pairwise (fun x y=>x.id<y.id)∧∀e∈mkF z C m nx ps b,e.id<nx+(mkF z C m nx ps b).length
 |[],_,_=>⟨List.Pairwise.nil,fun e h=>by cases h⟩
 | x ::ps,nx,b=>by
   rw [mkF]
   split
   · exact mkF_ids z C m ps nx _
   · obtain ⟨h1,h2⟩:=mkF_ids z C m ps (nx+1) (b.drop x.n)
     refine ⟨List.pairwise_cons.2 ⟨fun y hy=>(mkF_mem z C m ps _ _ y hy).1,h1⟩,fun e he=>?_⟩
     rcases List.mem_cons.1 he with rfl|he
     · simp
     · have:=h2 e he
       rw [List.length_cons]
       omega
theorem mkF_places (z:Nat) (C:Cu) (m:Int→Option Int):∀(ps:List Pt) (nx:Nat) (b:Bytes),ps.Pairwise (fun x y=>x.p<y.p)→(mkF z C m nx ps b).Pairwise (fun x y=>x.p<y.p)
 |[],_,_,_=>List.Pairwise.nil
 | x ::ps,nx,b,h=>by
   obtain ⟨h1,h2⟩:=List.pairwise_cons.1 h
   rw [mkF]
   split
   · exact mkF_places z C m ps nx _ h2
   · refine List.pairwise_cons.2 ⟨fun y hy=>?_,mkF_places z C m ps _ _ h2⟩
     obtain ⟨_,s,hs,e1⟩:=mkF_mem z C m ps _ _ y hy
     have:=h1 s hs
     simp only
     omega
theorem mkF_len (z:Nat) (C:Cu) (m:Int→Option Int):∀(ps:List Pt) (nx:Nat) (b:Bytes),(mkF z C m nx ps b).length≤ps.length
 |[],_,_=>Nat.le_refl _
 | x::ps,nx,b=>by
   rw [mkF]
   split
   · have:=mkF_len z C m ps nx (b.drop x.n);simp only [List.length_cons];omega
   · have:=mkF_len z C m ps (nx+1) (b.drop x.n);simp only [List.length_cons];omega
theorem skipB_add {C:Cu} {m:Int→Option Int} {l:List Mk3} {N:Nat} (hl:∀e∈l,N≤e.id) (hm:∀i id,m i=some id→id<N) (x:Pt) (b:Bytes):skipB (addC C l) m x b=skipB C m x b:=by
 unfold skipB
 cases h:m (x.p:Nat) with
 |none=>rfl
 | some id=>
   simp only
   rw [addC_old C l id (fun e he=>by have:=hl e he;have:=hm _ _ h;omega)]
theorem memF_add {z:Nat} {C:Cu} {m:Int→Option Int} {l:List Mk3} {N:Nat} (hl:∀e∈l,N≤e.id) (hm:∀i id,m i=some id→id<N) (i:Nat):memF z (addC C l) m i=memF z C m i:=by
 unfold memF
 cases h:m (i:Nat) with
 |none=>rfl
 | some id=>
   simp only
   rw [addC_old C l id (fun e he=>by have:=hl e he;have:=hm _ _ h;omega)]
open Classical in
noncomputable def plM (m:Int→Option Int) (R:List Mk3) (dn:Int→Prop):Int→Option Int:=fun i=>if dn i then mkM R i else m i
open Classical in
noncomputable def plC (C:Cu) (m:Int→Option Int) (R:List Mk3) (dn:Int→Prop):Cu:=fun id=>
 if ∃e∈R,(e.id:Int)=id∧dn (e.p:Int) then (addC C R id).map fun p=>(p.1,1)
 else if ∃k,dn k∧m k=some id then decU (C id) else addC C R id
theorem plC_congr {C:Cu} {m:Int→Option Int} {R:List Mk3} {dn dn':Int→Prop} {id:Int} (ha:(∃e∈R,(e.id:Int)=id∧dn' (e.p:Int)) ↔ ∃e∈R,(e.id:Int)=id∧dn (e.p:Int)) (hb:(∃k,dn' k∧m k=some id) ↔ ∃k,dn k∧m k=some id):plC C m R dn' id=plC C m R dn id:=by
 unfold plC
 by_cases c1:∃e∈R,(e.id:Int)=id∧dn (e.p:Int)
 · rw [if_pos c1,if_pos (ha.2 c1)]
 · rw [if_neg c1,if_neg (fun h=>c1 (ha.1 h))]
   by_cases c2:∃k,dn k∧m k=some id
   · rw [if_pos c2,if_pos (hb.2 c2)]
   · rw [if_neg c2,if_neg (fun h=>c2 (hb.1 h))]
theorem plC_none (C:Cu) (m:Int→Option Int) (R:List Mk3):plC C m R (fun _=>False)=addC C R:=by
 funext id
 unfold plC
 rw [if_neg (by rintro ⟨e,_,_,h⟩;exact h),if_neg (by rintro ⟨k,h,_⟩;exact h)]
theorem plM_none (m:Int→Option Int) (R:List Mk3):plM m R (fun _=>False)=m:=by
 funext i
 unfold plM
 rw [if_neg id]
section
variable {C:Cu} {m:Int→Option Int} {R:List Mk3} {N:Nat} {dn:Int→Prop} {k:Int} {e:Mk3}
def letC (C0 C:Cu):Option Int→Cu
 |none=>C0
 |some o=>updU C0 o (decU (C o))
structure MkOk (C:Cu) (m:Int→Option Int) (R:List Mk3) (N:Nat):Prop where
 ids:R.Pairwise (fun x y=>x.id<y.id)
 pl:R.Pairwise (fun x y=>x.p<y.p)
 new:∀e∈R,N≤e.id
 old:∀i p,C i=some p→i<N
 has:∀i id,m i=some id→∃p,C id=some p
 inj:∀i j id,m i=some id→m j=some id→i=j
theorem MkOk.id_lt (h:MkOk C m R N) {i id:Int} (hm:m i=some id):id<N:=by
 obtain ⟨p,hp⟩:=h.has i id hm
 exact h.old id p hp
theorem MkOk.at_new (h:MkOk C m R N) (he:e∈R) (hd:¬dn (e.p:Int)):plC C m R dn (e.id:Int)=some (e.b,0):=by
 have huniq:∀y∈R,(y.id:Int)=(e.id:Int)→y=e:=by
  intro y hy hid
  obtain ⟨i,hi⟩:=List.mem_iff_getElem?.1 hy
  obtain ⟨j,hj⟩:=List.mem_iff_getElem?.1 he
  have il:=(jS.1 hi)
  have jl:=(jS.1 hj)
  rcases Nat.lt_trichotomy i j with g|g|g
  · have:=List.pairwise_iff_getElem.1 h.ids i j il.1 jl.1 g
    rw [il.2,jl.2] at this
    omega
  · subst g;rw [hi] at hj;exact Option.some.inj hj
  · have:=List.pairwise_iff_getElem.1 h.ids j i jl.1 il.1 g
    rw [il.2,jl.2] at this
    omega
 unfold plC
 rw [if_neg (by rintro ⟨y,hy,hid,hdn⟩;rw [huniq y hy hid] at hdn;exact hd hdn),if_neg (by
  rintro ⟨k,_,hk⟩
  have:=h.id_lt hk
  have:=h.new e he
  omega),addC_mem C R h.ids e he]
theorem MkOk.at_old (h:MkOk C m R N) {id:Int} (hm:m k=some id) (hd:¬dn k):plC C m R dn id=C id∧plM m R dn k=some id:=by
 have hid:=h.id_lt hm
 unfold plC plM
 rw [if_neg (by rintro ⟨y,hy,hy2,_⟩;have:=h.new y hy;omega),if_neg (by rintro ⟨j,hj,hj2⟩;rw [h.inj j k id hj2 hm] at hj;exact hd hj),if_neg hd]
 exact ⟨addC_old C R id fun y hy=>by have:=h.new y hy;omega,hm⟩
theorem MkOk.step (h:MkOk C m R N) (he:e∈R) (hd:¬dn (e.p:Int)) {dn':Int→Prop} (hdn:∀i,dn' i ↔ dn i∨i=(e.p:Int)) {old:Option Int} (ho:m (e.p:Int)=old):
 plC C m R dn'=updU (letC (plC C m R dn) C old) (e.id:Int) (some (e.b,1))∧plM m R dn'=updM (plM m R dn) (e.p:Int) (some (e.id:Int)):=by
 have hnew:=h.new e he
 have hplace:∀y∈R,y.p=e.p→y=e:=by
  intro y hy hid
  obtain ⟨i,hi⟩:=List.mem_iff_getElem?.1 hy
  obtain ⟨j,hj⟩:=List.mem_iff_getElem?.1 he
  have il:=(jS.1 hi)
  have jl:=(jS.1 hj)
  rcases Nat.lt_trichotomy i j with g|g|g
  · have:=List.pairwise_iff_getElem.1 h.pl i j il.1 jl.1 g
    rw [il.2,jl.2] at this
    omega
  · subst g;rw [hi] at hj;exact Option.some.inj hj
  · have:=List.pairwise_iff_getElem.1 h.pl j i jl.1 il.1 g
    rw [il.2,jl.2] at this
    omega
 constructor
 · funext id
   by_cases h1:id=(e.id:Int)
   · rw [h1,updU_same]
     unfold plC
     rw [if_pos ⟨e,he,rfl,(hdn _).2 (.inr rfl)⟩,addC_mem C R h.ids e he]
     rfl
   · rw [updU_ne _ _ h1]
     have ha:(∃y∈R,(y.id:Int)=id∧dn' (y.p:Int)) ↔ (∃y∈R,(y.id:Int)=id∧dn (y.p:Int)):=by
      constructor
      · rintro ⟨y,hy,hid,hd2⟩
        rcases (hdn _).1 hd2 with g|g
        · exact ⟨y,hy,hid,g⟩
        · exact absurd (by rw [←hid,hplace y hy (by omega)]) h1
      · rintro ⟨y,hy,hid,hd2⟩
        exact ⟨y,hy,hid,(hdn _).2 (.inl hd2)⟩
     cases old with
     | none=>
       have hb:(∃k,dn' k∧m k=some id) ↔ (∃k,dn k∧m k=some id):=by
        constructor
        · rintro ⟨k,hk,hm⟩
          rcases (hdn _).1 hk with g|g
          · exact ⟨k,g,hm⟩
          · rw [g,ho] at hm;cases hm
        · rintro ⟨k,hk,hm⟩;exact ⟨k,(hdn _).2 (.inl hk),hm⟩
       exact plC_congr ha hb
     | some o=>
       rw [show letC (plC C m R dn) C (some o)=updU (plC C m R dn) o (decU (C o)) from rfl]
       by_cases h2:id=o
       · rw [h2,updU_same]
         have hol:=h.id_lt ho
         unfold plC
         rw [if_neg (by rintro ⟨y,hy,hy2,_⟩;have:=h.new y hy;omega),if_pos ⟨_,(hdn _).2 (.inr rfl),ho⟩]
       · rw [updU_ne _ _ h2]
         have hb:(∃k,dn' k∧m k=some id) ↔ (∃k,dn k∧m k=some id):=by
          constructor
          · rintro ⟨k,hk,hm⟩
            rcases (hdn _).1 hk with g|g
            · exact ⟨k,g,hm⟩
            · rw [g,ho] at hm
              exact absurd (Option.some.inj hm).symm h2
          · rintro ⟨k,hk,hm⟩;exact ⟨k,(hdn _).2 (.inl hk),hm⟩
         exact plC_congr ha hb
 · funext i
   by_cases h1:i=(e.p:Int)
   · rw [h1,updM_same]
     unfold plM
     rw [if_pos ((hdn _).2 (.inr rfl)),mkM_mem R h.pl e he]
   · rw [updM_ne _ _ h1]
     unfold plM
     by_cases h2:dn i
     · rw [if_pos h2,if_pos ((hdn _).2 (.inl h2))]
     · rw [if_neg h2,if_neg (fun g=>by rcases (hdn _).1 g with g|g;exact h2 g;exact h1 g)]
end
set_option maxRecDepth 100000
set_option maxHeartbeats 8000000
open Go.RowKit Go.Maps Go.MapKept
open Go.ChangeMaps (setBlock)
def ItIs (P:Program) (k:TypeId) (w:World) (b r:Nat) (f:Value→Option Value) (left:Value→Prop) (cnt:Nat):Prop:=
 ∃ es clock seen,w.heap[b]? =some (.map es clock)∧w.heap[r]? =some (.mapIter (some b) clock seen clock)∧Stamped es clock∧(∀x∈es.toList,∃l,keyOf P k x.key=some l)∧(∀x∈es.toList,f x.key=some x.val)∧(∀key v,f key=some v→∃x∈es.toList,x.key=key)∧
   (∀x∈es.toList,left x.key ↔ seen.contains x.born=false)∧cnt=(leftOf es seen).size
section
variable {P:Program} {k t e:TypeId} {w w':World} {b r c:Nat} {f:Value→Option Value} {left:Value→Prop} {cnt:Nat}
theorem ItIs.of_block (h:ItIs P k w b r f left cnt) (hb:w'.heap[b]? =w.heap[b]?) (hr:w'.heap[r]? =w.heap[r]?):ItIs P k w' b r f left cnt:=by
 obtain ⟨es,clock,seen,h1,h2,h3⟩:=h
 exact ⟨es,clock,seen,hb.trans h1,hr.trans h2,h3⟩
theorem ItIs.lt (h:ItIs P k w b r f left cnt):b<w.heap.size∧r<w.heap.size:=by
 obtain ⟨es,clock,seen,h1,h2,_⟩:=h
 exact ⟨(Array.getElem?_eq_some_iff.1 h1).1,(Array.getElem?_eq_some_iff.1 h2).1⟩
theorem ItIs.off {S:Nat→Prop} (h:ItIs P k w b r f left cnt) (ho:Off S w w') (hb:¬S b) (hr:¬S r):ItIs P k w' b r f left cnt:=h.of_block (ho.block b h.lt.1 hb) (ho.block r h.lt.2 hr)
theorem ItIs.left_eq (h:ItIs P k w b r f left cnt):w.rangeLeft b r=cnt:=by
 obtain ⟨es,clock,seen,hb,hr,_,_,_,_,_,hc⟩:=h
 rw [hc]
 simp only [World.rangeLeft,hb,hr]
theorem MapIs.range (h:MapIs P k w b f c) (ht:P.underlying t=some (.map k e)):
 ∃w',(Instr.range t (.map (some b))).run P w=.ok (.pointer (some ⟨w.heap.size,0,none⟩)) w'∧ItIs P k w' b w.heap.size f (fun _=>True) c∧Below w.heap.size w w':=by
 obtain ⟨es,clock,hb,hst,hc,hk,h1,h2⟩:=h
 have hlt:=(Array.getElem?_eq_some_iff.1 hb).1
 refine ⟨_,run_range_map w t k e b es clock ht hb,⟨es,clock,#[],?_,heap_alloc_new _ _,hst,hk,h1,h2,fun x _=>by simp,?_⟩,jB.alloc jN _⟩
 · rw [heap_alloc_old _ _ hlt]
   exact hb
 · rw [←hc]
   unfold leftOf
   rw [Array.filter_eq_self.2 (by simp)]
theorem ItIs.next (h:ItIs P k w b r f left cnt) (hbr:b≠r):
 (cnt=0∧(∀key v,f key=some v→¬left key)∧∀ty,(Instr.next (.pointer (some ⟨r,0,none⟩)) false ty).run P w=.ok (.tuple #[.bool false]) w)∨
 ∃ key val w2,f key=some val∧left key∧0<cnt∧(∃l,keyOf P k key=some l)∧(∀ty,(Instr.next (.pointer (some ⟨r,0,none⟩)) false ty).run P w=.ok (.tuple #[.bool true,key,val]) w2)∧Off (· =r) w w2∧w2.heap.size=w.heap.size∧
   ItIs P k w2 b r f (fun x=>left x∧x≠key) (cnt-1)∧(Instr.entry (.pointer (some ⟨r,0,none⟩))).run P w2=.ok (.tuple #[key,val]) w2:=by
 obtain ⟨es,clock,seen,hb,hr,hst,hk,h1,h2,hl,hc⟩:=h
 have hone:=run_next_at (P:=P) w
 have hlr:=(Array.getElem?_eq_some_iff.1 hr).1
 have memL:∀(s:Array Nat) (x:MapEntry),x∈(leftOf es s).toList ↔ x∈es.toList∧s.contains x.born=false:=fun s x=>by unfold leftOf;simp
 rcases run_next_at (P:=P) w 0 r b clock clock seen es clock hr hb hst.1 jN with ⟨h0,hn⟩|⟨e0,he0,w1,hw1,hn⟩
 · refine .inl ⟨by omega,fun key v hf hlk=>?_,fun ty=>hn⟩
   obtain ⟨x,hx,rfl⟩:=h2 key v hf
   have:=(memL seen x).2 ⟨hx,(hl x hx).1 hlk⟩
   have he:leftOf es seen=#[]:=Array.eq_empty_of_size_eq_zero h0
   rw [he] at this
   simp at this
 · right
   obtain ⟨m1,m2⟩:=(memL seen e0).1 he0
   have hpos:0<(leftOf es seen).size:=by
    rcases Nat.eq_zero_or_pos (leftOf es seen).size with h|h
    · have he:leftOf es seen=#[]:=Array.eq_empty_of_size_eq_zero h
      rw [he] at he0
      simp at he0
    · exact h
   have hsz1:w1.heap=w.heap:=by rcases hw1 with rfl|rfl<;>rfl
   have ho:Off (· =r) w (setBlock w1 r (.mapIter (some b) clock (seen.push e0.born) clock)):=by
    refine (show Off (· =r) w w1 from ?_).trans (off_setBlock _ _ _ _ rfl)
    rcases hw1 with rfl|rfl
    · exact Off.refl _ _
    · exact (Off.refl _ _).drew
   have hbb:(setBlock w1 r (.mapIter (some b) clock (seen.push e0.born) clock)).heap[b]? =some (.map es clock):=(ho.block b (Array.getElem?_eq_some_iff.1 hb).1 hbr).trans hb
   have hrr:(setBlock w1 r (.mapIter (some b) clock (seen.push e0.born) clock)).heap[r]? =some (.mapIter (some b) clock (seen.push e0.born) clock):=by
    simp [setBlock,hsz1,hlr]
   refine ⟨e0.key,e0.val,_,h1 e0 m1,(hl e0 m1).2 m2,by omega,hk e0 m1,fun ty=>hn,ho,by simp [setBlock,hsz1],⟨es,clock,seen.push e0.born,hbb,hrr,hst,hk,h1,h2,fun x hx=>?_,?_⟩,run_entry_at _ r b clock seen es clock e0 hrr hbb m1 hst.2.1⟩
   · have hxe:x.key=e0.key ↔ x.born=e0.born:=by
      obtain ⟨i,hi⟩:=List.mem_iff_getElem?.1 hx
      obtain ⟨j,hj⟩:=List.mem_iff_getElem?.1 m1
      have il:=(jS.1 hi).1
      constructor
      · intro e
        have e1:(es.toList.map (·.key))[i]? =(es.toList.map (·.key))[j]? :=by rw [List.getElem?_map,List.getElem?_map,hi,hj];simp [e]
        have:=(List.getElem?_inj (by simpa using il) hst.2.2).1 e1
        subst this
        rw [hi] at hj
        cases hj
        rfl
      · intro e
        have e1:(es.toList.map (·.born))[i]? =(es.toList.map (·.born))[j]? :=by rw [List.getElem?_map,List.getElem?_map,hi,hj];simp [e]
        have:=(List.getElem?_inj (by simpa using il) hst.2.1).1 e1
        subst this
        rw [hi] at hj
        cases hj
        rfl
     show (left x.key∧x.key≠e0.key) ↔ _
     rw [contains_push,hl x hx]
     by_cases e:x.born=e0.born
     · simp [e,hxe.2 e]
     · have e2:¬x.key=e0.key:=fun h=>e (hxe.1 h)
       simp [e,e2]
   · rw [hc]
     have hcnt:∀(l:List MapEntry),(l.map (·.born)).Nodup→e0∈l→(l.filter (fun x=>!seen.contains x.born)).length=(l.filter (fun x=>!(seen.push e0.born).contains x.born)).length+1:=by
      intro l hnd hml
      have hm0:(!seen.contains e0.born)=true:=by simpa using m2
      induction l with
      |nil=>simp at hml
      | cons y l ih=>
        have hn':y.born ∉ l.map (·.born)∧(l.map (·.born)).Nodup:=List.nodup_cons.1 hnd
        rcases List.mem_cons.1 hml with rfl|hin
        · have hr2:l.filter (fun x=>!(seen.push e0.born).contains x.born)=l.filter (fun x=>!seen.contains x.born):=by
           refine List.filter_congr fun x hx=>?_
           have:x.born≠e0.born:=fun e=>hn'.1 (by rw [←e];exact List.mem_map.2 ⟨x,hx,rfl⟩)
           rw [contains_push]
           simp [this]
          rw [List.filter_cons,if_pos hm0,List.filter_cons,if_neg (by rw [contains_push];simp),hr2]
          rfl
        · have hne:y.born≠e0.born:=fun e=>hn'.1 (by rw [e];exact List.mem_map.2 ⟨e0,hin,rfl⟩)
          have ih2:=ih hn'.2 hin
          have hy:(!(seen.push e0.born).contains y.born)=(!seen.contains y.born):=by rw [contains_push];simp [hne]
          rw [List.filter_cons,List.filter_cons,hy]
          split
          · simp only [List.length_cons];omega
          · exact ih2
     have e3:=hcnt es.toList hst.2.1 m1
     have e4:∀s:Array Nat,(leftOf es s).size=(es.toList.filter (fun x=>!s.contains x.born)).length:=fun s=>by unfold leftOf;rw [←Array.length_toList,Array.toList_filter]
     rw [e4,e4,e3]
     rfl
end
end Go.Proofs.YtlhfjaagkgengaaGreat
