/- The document's machine: Do: a process forks. The document's machine: Do: regions. -/
import Derived.Test.YtlhfjaagkgengaaGreatPC41
namespace Go.Proofs.YtlhfjaagkgengaaGreat
set_option maxRecDepth 100000
open Go.RowKit Go.Maps
set_option linter.unusedVariables false
set_option linter.unusedSimpArgs false
section
variable {w w':World} {D:MaD} {P:List (Option MPr)} {p:MPr} {k:Nat}
set_option maxHeartbeats 4000000 in
theorem do_fork (h:MaAt w D P) (hk:P[k]? =some (some p)) (hnf:¬fullB (plP P)=true) (hrl:p.R.length≤1000) (hll:p.L.length≤100000) (at_ n prot:Int) (A:Option Addr) (m c:Nat) (HCH:Hid (∀V,Below w.heap.size w V→Calls Tryz.prog 88 #[.pointer (some ⟨D.X,0,none⟩),.agg #[.int .i64 7,.int .i64 (k:Nat),.int .i64 at_,.int .i64 n,.int .i64 prot,.slice A m c]] V fun e w'=>e=.returned (.int .i64 0)∧Below V.heap.size V w')):Calls Tryz.prog 70 #[.pointer (some ⟨D.X,0,none⟩),.agg #[.int .i64 7,.int .i64 (k:Nat),.int .i64 at_,.int .i64 n,.int .i64 prot,.slice A m c]] w (DoNew w D P p.pl):=by
 have HB0:Hid (Below w.heap.size w ((w.alloc (.cells #[.int .i64 7,.int .i64 (k:Nat),.int .i64 at_,.int .i64 n,.int .i64 prot,.slice A m c] 47)).alloc (.cells #[.int .i64 0,.int .i64 0,.slice none 0 0,.slice none 0 0] 76))):=hJ ((jB.alloc jN _).alloc (by simp) _)
 have HK:Hid (∀W,Below (w.alloc (.cells #[.int .i64 7,.int .i64 (k:Nat),.int .i64 at_,.int .i64 n,.int .i64 prot,.slice A m c] 47)).heap.size (w.alloc (.cells #[.int .i64 7,.int .i64 (k:Nat),.int .i64 at_,.int .i64 n,.int .i64 prot,.slice A m c] 47)) W→_):=hJ fun W hb=>op_cells hb
 go_enter Tryz.func70,Tryz.ntmps70
 go_wp2_with fail
 refine (HCH.out _ HB0.out).mono ?_
 rintro e w1 ⟨rfl,hb1⟩
 have hA:=(AnAt.new (w.alloc (.cells #[.int .i64 7,.int .i64 (k:Nat),.int .i64 at_,.int .i64 n,.int .i64 prot,.slice A m c] 47))).up hb1
 have hwo:(w.alloc (.cells #[.int .i64 7,.int .i64 (k:Nat),.int .i64 at_,.int .i64 n,.int .i64 prot,.slice A m c] 47)).heap.size=w.heap.size+1:=by simp
 have hk:=HK.out w1 ((jB.alloc jN _).trans (hb1.mono (by simp)))
 rw [hwo] at hA
 obtain ⟨a,ha⟩:∃a,w.heap.size+1=a:=⟨_,rfl⟩
 obtain ⟨bx,hbx⟩:∃bx,w.heap.size=bx:=⟨_,rfl⟩
 rw [ha] at hA ⊢
 rw [hbx] at hk ⊢
 have HAN:=hJ hA
 have HOP:=hJ hk
 have HB1:=hJ (HB0.out.trans (hb1.mono HB0.out.size))
 have HM1:=hJ (h.up HB1.out)
 have HA:=hJ (show w.heap.size≤a by omega)
 have HBX:=hJ (show w.heap.size≤bx by omega)
 obtain ⟨k0,k1,k2,k3,k4,k5⟩:=hk
 have lbx:=lt_of_cell k0
 have la:=lt_of_cell hA.c0
 have lX:=HM1.out.f.ltX
 have x9:=HM1.out.f.c9
 have HLT:Hid (∀q,maO D P q→q<w.heap.size):=hJ fun q hq=>h.lt hq
 clear hb1 HCH HB0 HK hA hwo ha hbx
 have HO1:=hJ (OpAt.of HOP.out)
 have x10:=HM1.out.f.c10
 obtain ⟨gq,hgq,lgq,hcq,_⟩:=HM1.out.f.qAt
 have q0:=hcq k (some p.X) (by rw [List.getElem?_map,hk];rfl)
 unfold MaD.qv at x10
 rw [hgq] at x10
 have hkn:k<D.n:=by rw [←HM1.out.len];exact (jS.1 hk).1
 have hkI:(k:Int)<(D.n:Int):=by omega
 have hk0:(0:Int)≤(k:Int):=by omega
 simp only [Option.map_some] at q0
 clear hcq hgq h HOP
 go_upto_region 11 with (fail)
 refine wp_region_up (by kernel_rfl) (by kernel_rfl) ?_
 repeat (go_big_quiet_step (fail))
 refine wpQuiet_nil ?_
 rintro _ ⟨g1,rfl⟩
 go_upto_region 12 with (fail)
 refine wp_forget (fun U=>Below w1.heap.size w1 U) g1.h ?_
 clear k0 k1 k2 k3 k4 k5 lbx la lX x9 x10 lgq q0
 rintro U hU
 have HBU:=hJ (HB1.out.trans (hU.mono HB1.out.size))
 have HU1:=hJ hU
 have HMU:=hJ (HM1.out.up hU)
 have HAU:=hJ (HAN.out.up hU)
 have HOU:=hJ (HO1.out.up hU)
 have HPU:=hJ (HMU.out.get hk)
 obtain ⟨k0,k1,k2,k3,k4,k5⟩:=HOU.out
 have lbx:=lt_of_cell k0
 clear hU
 have lX:=HMU.out.f.ltX
 have x9:=HMU.out.f.c9
 have HT:=hJ (npTake_any HMU.out.f)
 go_wp2_with fail
 refine HT.out.mono ?_
 rintro e w2 (⟨j,gB,hjn,hjf,hlow,hgB,rfl,rfl⟩|⟨hall,_,_⟩)
 · have hob:D.bv.ownBlock=some gB:=by unfold MaD.bv;rw [hgB];rfl
   have h2:=HMU.out.f.setB hgB j true
   have nbx:gB<w.heap.size:=HLT.out gB (.inl (.inr (.inr (.inl hob))))
   have HAN2:=hJ (HAU.out.off h2.2 (fun e=>by have:=HA.out;omega))
   have HF2:=hJ h2
   have HPV2:=hJ (HPU.out.off h2.2 fun q hq e=>HMU.out.sep p (jG hk) q hq (by rw [e];exact .inr (.inr (.inl hob))))
   have HKN:=hJ (And.intro (none_at hjf) fun i hi=>some_at (hlow i hi))
   have HGB:=hJ hob
   have HZZ:=hJ HMU.out.f.sok.b4
   clear HT hlow hjf h2 hgB hob k0 k1 k2 k3 k4 k5 lbx x9 nbx lX
   go_upto_region 39 with (fail)
   refine wp_forget (fun V=>MaF V D ((P.map Option.isSome).set j true) (P.map (Option.map MPr.X))∧AnAt V a∧PrAt V D.z p∧Off D.fx U V) ⟨HF2.out.1,HAN2.out,HPV2.out,HF2.out.2.mono fun q e=>by rw [e];exact .inr (.inr (.inl HGB.out))⟩ ?_
   clear HF2 HAN2 HPV2
   rintro V ⟨hf,han,hpv,hof⟩
   have HF:=hJ hf
   have HAV:=hJ han
   have HOF:=hJ hof
   have HTW:=hJ (maTwin_any HZZ.out (hpv.up (Below.refl V.heap.size V).drew) hrl hll)
   obtain ⟨gq,hgq,lgq,hcq,hfq⟩:=hf.qAt
   have q0:=hcq j none (by rw [List.getElem?_map,HKN.out.1];rfl)
   have qf:=hfq j
   have x10:=hf.c10
   have lX:=hf.ltX
   have lP:=hpv.ltX
   unfold MaD.qv at x10
   rw [hgq] at x10
   have hkJ:(j:Int)<(D.n:Int):=by omega
   have hj0:(0:Int)≤(j:Int):=by omega
   simp only [Option.map_none] at q0
   have HGQ:=hJ hgq
   have hoq:D.qv.ownBlock=some gq:=by unfold MaD.qv;rw [hgq];rfl
   have hga:gq≠a:=by have:=HLT.out gq (.inl (.inr (.inr (.inr hoq))));have:=HA.out;omega
   have HGA:=hJ (And.intro hga hoq)
   have hgX:gq≠D.X:=(hf.neQ gq hoq).1
   have HGX:=hJ hgX
   clear hf han hof hcq hfq hgq hoq hpv hga hgX
   have KS:Hid (V.cell? ⟨D.X,10,none⟩=some (.slice (some ⟨gq,0,none⟩) D.n D.Qc)):=hJ x10
   go_region_held3 (fun W=>W.cell? ⟨D.X,10,none⟩=some (.slice (some ⟨gq,0,none⟩) D.n D.Qc)) (first|exact KS.out|exact (World.cell?_setCell_other _ _ _ _ (fun e=>HGX.out (congrArg Addr.block e))).trans KS.out|go_keep)
    ((go_at_call 89;(with_reducible refine HTW.out.mono ?_);rintro e w5 ⟨p',rfl,hp5,hpl5,hb5,hown5⟩;have HP5:=hJ hp5;have HPL5:=hJ hpl5;have HB5:Hid (Below V.heap.size V w5):=hJ ((Below.refl V.heap.size V).drew.trans hb5);have HOW5:Hid (∀q,p'.own q→V.heap.size≤q):=hJ hown5;have KS:Hid (w5.cell? ⟨D.X,10,none⟩=some (.slice (some ⟨gq,0,none⟩) D.n D.Qc)):=hJ ((HB5.out.cell (p:=⟨D.X,10,none⟩) lX).trans x10);have y0:=(HB5.out.cell (p:=⟨gq,j,none⟩) lgq).trans q0;have yf:=(HB5.out.frozen (p:=⟨gq,j,none⟩) lgq).trans qf;clear hp5 hpl5 hb5 hown5))
   go_upto_region 40 with (fail)
   refine wp_forget (fun Z=>∃p2:MPr,p2.pl=p.pl∧MaAt Z D (P.set j (some p2))∧MaN U Z D P (P.set j (some p2))∧AnAt Z a∧¬maO D (P.set j (some p2)) a) ?_ ?_
   · have hlV:=HOF.out.size
     have hf3:=(HF.out.up HB5.out).setQ HGQ.out j (some p'.X)
     have hoQ:=(HOF.out.step HB5.out).trans (hf3.2.mono (S':=D.fx) fun q e=>by rw [e];exact .inr (.inr (.inr HGA.out.2)))
     have lgQ:=HF.out.lt (q:=gq) (.inr (.inr (.inr HGA.out.2)))
     have hadd:=HMU.out.addP (p:=p') HKN.out.1 hf3.1 hoQ (HP5.out.off hf3.2 fun q hq e=>by have:=HOW5.out q hq;omega) (fun q hq=>Nat.le_trans hlV (HOW5.out q hq))
     have hdr:∀W:World,Below W.heap.size W W.drew:=fun W=>jB.drew
     refine ⟨p',HPL5.out,?_,?_,?_,fun hq=>?_⟩
     · first|exact hadd.1|exact hadd.1.up (hdr _)
     · first|exact hadd.2|exact hadd.2.up (hdr _)
     · have han3:=(HAV.out.up HB5.out).off hf3.2 (fun e=>HGA.out.1 e.symm)
       first|exact han3|exact han3.up (hdr _)
     · have hl:=HA.out
       rcases hq with hq|⟨x,hx,hq⟩
       · have:=HLT.out a (.inl hq);omega
       · rcases set_mem hx with e2|⟨i,hi,hx⟩
         · cases e2
           have:=HOW5.out a hq
           have:=lt_of_cell HAV.out.c0
           omega
         · have:=HLT.out a (.inr ⟨x,jG hx,hq⟩);omega
   clear HF HAV HOF q0 qf x10 lgq lX KS HP5 HB5 HOW5 y0 yf HTW
   rintro Z ⟨p2,hpl,hma,hman,hau,hnot⟩
   have HMZ:=hJ hma
   have HNZ:=hJ hman
   have HAZ:=hJ hau
   have HNT:=hJ hnot
   have HPL:=hJ hpl
   obtain ⟨a0,a1,a2,a3,af⟩:=HAZ.out
   have f0:=af 0
   have f1:=af 1
   have f2:=af 2
   have f3:=af 3
   clear af
   have la:=lt_of_cell a0
   clear hma hman hau hnot hpl
   go_wp2
   have hoa:=ans_off Z a (.int .i64 0) (.int .i64 (j:Nat)) (.slice none 0 0) (.slice none 0 0)
   refine ans_end rfl HAZ.out ⟨j,p2,HKN.out.1,HKN.out.2,HPL.out,HMZ.out.off hoa (fun q hq e=>HNT.out (e ▸ hq)),HNZ.out.late HBU.out HLT.out hoa (fun q e=>by rw [e];exact HA.out),rfl⟩
 · exact absurd (all_some fun i hi=>hall i (by rw [←HMU.out.len];exact hi)) hnf
end
set_option maxRecDepth 100000
def MPr.setR (p:MPr) (A:Option Addr) (c:Nat) (R:List Rg):MPr:={p with RA:=A,Rc:=c,R:=R}
section
variable {w w' w4:World} {D:MaD} {P:List (Option MPr)} {p:MPr} {k z:Nat}
theorem PrAt.setR (h:PrAt w4 z p) {A:Option Addr} {n c:Nat} {R:List Rg} (hn:n=R.length) (hrow:OwE rgE 0 w4 (.slice A n c) R):PrAt (w4.setCell ⟨p.X,0,none⟩ (.slice A n c)) z (p.setR A c R)∧Off (· =p.X) w4 (w4.setCell ⟨p.X,0,none⟩ (.slice A n c))∧(p.setR A c R).rv=.slice A n c:=by
 subst hn
 have ho:Off (· =p.X) w4 (w4.setCell ⟨p.X,0,none⟩ (.slice A R.length c)):=(Off.refl (· =p.X) w4).setCell (p:=⟨p.X,0,none⟩) rfl _
 refine ⟨⟨?_,?_,?_,?_,h.ok,h.gs⟩,ho,rfl⟩
 · exact heap_setCell_same w4 p.X 0 _ 157 (.slice A R.length c) h.x0
 · exact hrow.off ho fun k e e2=>own_block hrow h.x0 (by decide) e e2
 · exact h.lr.off ho fun k e e2=>h.ne_lX e e2
 · exact fun y hy=>(h.bys y hy).off ho fun k e e2=>by cases e;exact h.ne_gX hy e2
def DoPr (w:World) (D:MaD) (P:List (Option MPr)) (k:Nat) (R:PrP) (e:Ending) (w':World):Prop:=
 ∃p:MPr,p.pl=R∧MaAt w' D (P.set k (some p))∧MaN w w' D P (P.set k (some p))∧e=.returned (ansV 0 0 (.slice none 0 0) (.slice none 0 0))
theorem MaAt.regs (h:MaAt w D P) (hk:P[k]? =some (some p)) (hb:Below w.heap.size w w4) {A:Option Addr} {n c:Nat} {R:List Rg} (hn:n=R.length) (hrow:FrG w w4 (.slice A n c) R):
 MaAt (w4.setCell ⟨p.X,0,none⟩ (.slice A n c)) D (P.set k (some (p.setR A c R)))∧MaN w (w4.setCell ⟨p.X,0,none⟩ (.slice A n c)) D P (P.set k (some (p.setR A c R))):=by
 have h4:=(h.get hk).up hb
 obtain ⟨h1,h2,h3⟩:=h4.setR hn (hrow.1.mono (Nat.zero_le _))
 refine h.setPr hk rfl ((Off.of_below hb).trans (h2.mono fun q e=>.inl e)) h1 fun q hq=>?_
 rcases hq with e|e|e|e
 · exact .inl (.inl e)
 · rw [h3] at e
   exact .inr (hrow.1.lt e).1
 · exact .inl (.inr (.inr (.inl e)))
 · exact .inl (.inr (.inr (.inr e)))
end
section
variable {w w':World} {D:MaD} {P:List (Option MPr)} {p:MPr} {k:Nat}
set_option maxHeartbeats 4000000 in
theorem do_map (h:MaAt w D P) (hk:P[k]? =some (some p)) (hrg:rightL D.ps p.R=true) (hrl:p.R.length≤1000) (at_ n prot:Int) (A:Option Addr) (m c:Nat) (hz:(mappedF D.sd p.R at_ n prot).2=0) (HCH:Hid (∀V,Below w.heap.size w V→Calls Tryz.prog 88 #[.pointer (some ⟨D.X,0,none⟩),.agg #[.int .i64 2,.int .i64 (k:Nat),.int .i64 at_,.int .i64 n,.int .i64 prot,.slice A m c]] V fun e w'=>e=.returned (.int .i64 0)∧Below V.heap.size V w')):Calls Tryz.prog 70 #[.pointer (some ⟨D.X,0,none⟩),.agg #[.int .i64 2,.int .i64 (k:Nat),.int .i64 at_,.int .i64 n,.int .i64 prot,.slice A m c]] w (DoPr w D P k ⟨(mappedF D.sd p.R at_ n prot).1,p.pl.L⟩):=by
 have HB0:Hid (Below w.heap.size w ((w.alloc (.cells #[.int .i64 2,.int .i64 (k:Nat),.int .i64 at_,.int .i64 n,.int .i64 prot,.slice A m c] 47)).alloc (.cells #[.int .i64 0,.int .i64 0,.slice none 0 0,.slice none 0 0] 76))):=hJ ((jB.alloc jN _).alloc (by simp) _)
 have HK:Hid (∀W,Below (w.alloc (.cells #[.int .i64 2,.int .i64 (k:Nat),.int .i64 at_,.int .i64 n,.int .i64 prot,.slice A m c] 47)).heap.size (w.alloc (.cells #[.int .i64 2,.int .i64 (k:Nat),.int .i64 at_,.int .i64 n,.int .i64 prot,.slice A m c] 47)) W→_):=hJ fun W hb=>op_cells hb
 go_enter Tryz.func70,Tryz.ntmps70
 go_wp2_with fail
 refine (HCH.out _ HB0.out).mono ?_
 rintro e w1 ⟨rfl,hb1⟩
 have hA:=(AnAt.new (w.alloc (.cells #[.int .i64 2,.int .i64 (k:Nat),.int .i64 at_,.int .i64 n,.int .i64 prot,.slice A m c] 47))).up hb1
 have hwo:(w.alloc (.cells #[.int .i64 2,.int .i64 (k:Nat),.int .i64 at_,.int .i64 n,.int .i64 prot,.slice A m c] 47)).heap.size=w.heap.size+1:=by simp
 have hk:=HK.out w1 ((jB.alloc jN _).trans (hb1.mono (by simp)))
 rw [hwo] at hA
 obtain ⟨a,ha⟩:∃a,w.heap.size+1=a:=⟨_,rfl⟩
 obtain ⟨bx,hbx⟩:∃bx,w.heap.size=bx:=⟨_,rfl⟩
 rw [ha] at hA ⊢
 rw [hbx] at hk ⊢
 have HAN:=hJ hA
 have HOP:=hJ hk
 have HB1:=hJ (HB0.out.trans (hb1.mono HB0.out.size))
 have HM1:=hJ (h.up HB1.out)
 have HA:=hJ (show w.heap.size≤a by omega)
 have HBX:=hJ (show w.heap.size≤bx by omega)
 obtain ⟨k0,k1,k2,k3,k4,k5⟩:=hk
 have lbx:=lt_of_cell k0
 have la:=lt_of_cell hA.c0
 have lX:=HM1.out.f.ltX
 have x9:=HM1.out.f.c9
 have HLT:Hid (∀q,maO D P q→q<w.heap.size):=hJ fun q hq=>h.lt hq
 clear hb1 HCH HB0 HK hA hwo ha hbx
 have HO1:=hJ (OpAt.of HOP.out)
 have x10:=HM1.out.f.c10
 obtain ⟨gq,hgq,lgq,hcq,_⟩:=HM1.out.f.qAt
 have q0:=hcq k (some p.X) (by rw [List.getElem?_map,hk];rfl)
 unfold MaD.qv at x10
 rw [hgq] at x10
 have hkn:k<D.n:=by rw [←HM1.out.len];exact (jS.1 hk).1
 have hkI:(k:Int)<(D.n:Int):=by omega
 have hk0:(0:Int)≤(k:Int):=by omega
 simp only [Option.map_some] at q0
 clear hcq hgq h HOP
 go_upto_region 11 with (fail)
 refine wp_region_up (by kernel_rfl) (by kernel_rfl) ?_
 repeat (go_big_quiet_step (fail))
 refine wpQuiet_nil ?_
 rintro _ ⟨g1,rfl⟩
 go_upto_region 12 with (fail)
 refine wp_forget (fun U=>Below w1.heap.size w1 U) g1.h ?_
 clear k0 k1 k2 k3 k4 k5 lbx la lX x9 x10 lgq q0
 rintro U hU
 have HBU:=hJ (HB1.out.trans (hU.mono HB1.out.size))
 have HU1:=hJ hU
 have HMU:=hJ (HM1.out.up hU)
 have HAU:=hJ (HAN.out.up hU)
 have HOU:=hJ (HO1.out.up hU)
 have HPU:=hJ (HMU.out.get hk)
 obtain ⟨k0,k1,k2,k3,k4,k5⟩:=HOU.out
 have lbx:=lt_of_cell k0
 clear hU
 have HRG:=hJ (maMap_any HMU.out.f HPU.out hrg hrl (k:Nat) at_ n prot (.slice A m c))
 have lP:=HPU.out.ltX
 have p0:=HPU.out.c0
 have pf:=HPU.out.fz 0
 have HNU:Hid (¬maO D P a):=hJ fun hq=>by have:=HLT.out a hq;have:=HA.out;omega
 go_upto_region 13 with (fail)
 go_wp2_with fail
 refine HRG.out.mono ?_
 rintro e w5 ⟨A',n',c',rfl,hb5,hrow⟩
 obtain ⟨hn5,hf5⟩:=hrow hz
 have hreg:=HMU.out.regs hk hb5 hn5 hf5
 have hoX:Off (· =p.X) w5 (w5.setCell ⟨p.X,0,none⟩ (.slice A' n' c')):=(Off.refl (· =p.X) w5).setCell (p:=⟨p.X,0,none⟩) rfl _
 have hXa:p.X≠a:=fun e=>HNU.out (.inr ⟨p,jG hk,.inl e.symm⟩)
 have han:=(HAU.out.up hb5).off hoX (fun e=>hXa e.symm)
 have hnot:¬maO D (P.set k (some (p.setR A' c' (mappedF D.sd p.R at_ n prot).1))) a:=fun hq=>by
  rcases hreg.2.own a hq with e|e
  · exact HNU.out e
  · have:=lt_of_cell HAU.out.c0;omega
 have HFIN:=hJ (And.intro hreg (And.intro han hnot))
 have lP5:=Nat.lt_of_lt_of_le lP hb5.size
 have p05:=(hb5.cell (p:=⟨p.X,0,none⟩) lP).trans p0
 have pf5:=(hb5.frozen (p:=⟨p.X,0,none⟩) lP).trans pf
 have ne0:bx≠p.X:=fun e=>by have:=HLT.out p.X (.inr ⟨p,jG hk,.inl rfl⟩);have:=HBX.out;omega
 have b5:=HOU.out.up hb5
 obtain ⟨k0,k1,k2,k3,k4,k5⟩:=b5
 have lbx5:=lt_of_cell k0
 clear hrow hreg hoX han hnot hn5 hf5 hb5 HRG
 go_upto_region 44 with (fail)
 refine wp_forget (fun Z=>∃p2:MPr,p2.pl=⟨(mappedF D.sd p.R at_ n prot).1,p.pl.L⟩∧MaAt Z D (P.set k (some p2))∧MaN U Z D P (P.set k (some p2))∧AnAt Z a∧¬maO D (P.set k (some p2)) a) ⟨_,rfl,HFIN.out.1.1,HFIN.out.1.2,HFIN.out.2.1,HFIN.out.2.2⟩ ?_
 clear HFIN lP5 p05 pf5 lP p0 pf k0 k1 k2 k3 k4 k5 lbx5 lbx
 rintro Z ⟨p2,hpl,hma,hman,hau,hnot⟩
 have HMZ:=hJ hma
 have HNZ:=hJ hman
 have HAZ:=hJ hau
 have HNT:=hJ hnot
 have HPL:=hJ hpl
 obtain ⟨a0,a1,a2,a3,af⟩:=HAZ.out
 have f0:=af 0
 have f1:=af 1
 have f2:=af 2
 have f3:=af 3
 clear af
 have la:=lt_of_cell a0
 clear hma hman hau hnot hpl
 go_wp2
 have hoa:=ans_off Z a (.int .i64 0) (.int .i64 0) (.slice none 0 0) (.slice none 0 0)
 refine ans_end rfl HAZ.out ⟨p2,HPL.out,HMZ.out.off hoa (fun q hq e=>HNT.out (e ▸ hq)),HNZ.out.late HBU.out HLT.out hoa (fun q e=>by rw [e];exact HA.out),rfl⟩
set_option maxHeartbeats 4000000 in
theorem do_prot (h:MaAt w D P) (hk:P[k]? =some (some p)) (hrg:rightL D.ps p.R=true) (hrl:p.R.length≤1000) (at_ n prot:Int) (A:Option Addr) (m c:Nat) (hz:(protectedF D.sd p.R at_ n prot).2=0) (HCH:Hid (∀V,Below w.heap.size w V→Calls Tryz.prog 88 #[.pointer (some ⟨D.X,0,none⟩),.agg #[.int .i64 4,.int .i64 (k:Nat),.int .i64 at_,.int .i64 n,.int .i64 prot,.slice A m c]] V fun e w'=>e=.returned (.int .i64 0)∧Below V.heap.size V w')):Calls Tryz.prog 70 #[.pointer (some ⟨D.X,0,none⟩),.agg #[.int .i64 4,.int .i64 (k:Nat),.int .i64 at_,.int .i64 n,.int .i64 prot,.slice A m c]] w (DoPr w D P k ⟨(protectedF D.sd p.R at_ n prot).1,p.pl.L⟩):=by
 have HB0:Hid (Below w.heap.size w ((w.alloc (.cells #[.int .i64 4,.int .i64 (k:Nat),.int .i64 at_,.int .i64 n,.int .i64 prot,.slice A m c] 47)).alloc (.cells #[.int .i64 0,.int .i64 0,.slice none 0 0,.slice none 0 0] 76))):=hJ ((jB.alloc jN _).alloc (by simp) _)
 have HK:Hid (∀W,Below (w.alloc (.cells #[.int .i64 4,.int .i64 (k:Nat),.int .i64 at_,.int .i64 n,.int .i64 prot,.slice A m c] 47)).heap.size (w.alloc (.cells #[.int .i64 4,.int .i64 (k:Nat),.int .i64 at_,.int .i64 n,.int .i64 prot,.slice A m c] 47)) W→_):=hJ fun W hb=>op_cells hb
 go_enter Tryz.func70,Tryz.ntmps70
 go_wp2_with fail
 refine (HCH.out _ HB0.out).mono ?_
 rintro e w1 ⟨rfl,hb1⟩
 have hA:=(AnAt.new (w.alloc (.cells #[.int .i64 4,.int .i64 (k:Nat),.int .i64 at_,.int .i64 n,.int .i64 prot,.slice A m c] 47))).up hb1
 have hwo:(w.alloc (.cells #[.int .i64 4,.int .i64 (k:Nat),.int .i64 at_,.int .i64 n,.int .i64 prot,.slice A m c] 47)).heap.size=w.heap.size+1:=by simp
 have hk:=HK.out w1 ((jB.alloc jN _).trans (hb1.mono (by simp)))
 rw [hwo] at hA
 obtain ⟨a,ha⟩:∃a,w.heap.size+1=a:=⟨_,rfl⟩
 obtain ⟨bx,hbx⟩:∃bx,w.heap.size=bx:=⟨_,rfl⟩
 rw [ha] at hA ⊢
 rw [hbx] at hk ⊢
 have HAN:=hJ hA
 have HOP:=hJ hk
 have HB1:=hJ (HB0.out.trans (hb1.mono HB0.out.size))
 have HM1:=hJ (h.up HB1.out)
 have HA:=hJ (show w.heap.size≤a by omega)
 have HBX:=hJ (show w.heap.size≤bx by omega)
 obtain ⟨k0,k1,k2,k3,k4,k5⟩:=hk
 have lbx:=lt_of_cell k0
 have la:=lt_of_cell hA.c0
 have lX:=HM1.out.f.ltX
 have x9:=HM1.out.f.c9
 have HLT:Hid (∀q,maO D P q→q<w.heap.size):=hJ fun q hq=>h.lt hq
 clear hb1 HCH HB0 HK hA hwo ha hbx
 have HO1:=hJ (OpAt.of HOP.out)
 have x10:=HM1.out.f.c10
 obtain ⟨gq,hgq,lgq,hcq,_⟩:=HM1.out.f.qAt
 have q0:=hcq k (some p.X) (by rw [List.getElem?_map,hk];rfl)
 unfold MaD.qv at x10
 rw [hgq] at x10
 have hkn:k<D.n:=by rw [←HM1.out.len];exact (jS.1 hk).1
 have hkI:(k:Int)<(D.n:Int):=by omega
 have hk0:(0:Int)≤(k:Int):=by omega
 simp only [Option.map_some] at q0
 clear hcq hgq h HOP
 go_upto_region 11 with (fail)
 refine wp_region_up (by kernel_rfl) (by kernel_rfl) ?_
 repeat (go_big_quiet_step (fail))
 refine wpQuiet_nil ?_
 rintro _ ⟨g1,rfl⟩
 go_upto_region 12 with (fail)
 refine wp_forget (fun U=>Below w1.heap.size w1 U) g1.h ?_
 clear k0 k1 k2 k3 k4 k5 lbx la lX x9 x10 lgq q0
 rintro U hU
 have HBU:=hJ (HB1.out.trans (hU.mono HB1.out.size))
 have HU1:=hJ hU
 have HMU:=hJ (HM1.out.up hU)
 have HAU:=hJ (HAN.out.up hU)
 have HOU:=hJ (HO1.out.up hU)
 have HPU:=hJ (HMU.out.get hk)
 obtain ⟨k0,k1,k2,k3,k4,k5⟩:=HOU.out
 have lbx:=lt_of_cell k0
 clear hU
 have HRG:=hJ (maProt_any HMU.out.f HPU.out hrg hrl (k:Nat) at_ n prot (.slice A m c))
 have lP:=HPU.out.ltX
 have p0:=HPU.out.c0
 have pf:=HPU.out.fz 0
 have HNU:Hid (¬maO D P a):=hJ fun hq=>by have:=HLT.out a hq;have:=HA.out;omega
 go_upto_region 13 with (fail)
 go_wp2_with fail
 refine HRG.out.mono ?_
 rintro e w5 ⟨A',n',c',rfl,hb5,hrow⟩
 obtain ⟨hn5,hf5⟩:=hrow hz
 have hreg:=HMU.out.regs hk hb5 hn5 hf5
 have hoX:Off (· =p.X) w5 (w5.setCell ⟨p.X,0,none⟩ (.slice A' n' c')):=(Off.refl (· =p.X) w5).setCell (p:=⟨p.X,0,none⟩) rfl _
 have hXa:p.X≠a:=fun e=>HNU.out (.inr ⟨p,jG hk,.inl e.symm⟩)
 have han:=(HAU.out.up hb5).off hoX (fun e=>hXa e.symm)
 have hnot:¬maO D (P.set k (some (p.setR A' c' (protectedF D.sd p.R at_ n prot).1))) a:=fun hq=>by
  rcases hreg.2.own a hq with e|e
  · exact HNU.out e
  · have:=lt_of_cell HAU.out.c0;omega
 have HFIN:=hJ (And.intro hreg (And.intro han hnot))
 have lP5:=Nat.lt_of_lt_of_le lP hb5.size
 have p05:=(hb5.cell (p:=⟨p.X,0,none⟩) lP).trans p0
 have pf5:=(hb5.frozen (p:=⟨p.X,0,none⟩) lP).trans pf
 have ne0:bx≠p.X:=fun e=>by have:=HLT.out p.X (.inr ⟨p,jG hk,.inl rfl⟩);have:=HBX.out;omega
 have b5:=HOU.out.up hb5
 obtain ⟨k0,k1,k2,k3,k4,k5⟩:=b5
 have lbx5:=lt_of_cell k0
 clear hrow hreg hoX han hnot hn5 hf5 hb5 HRG
 go_upto_region 44 with (fail)
 refine wp_forget (fun Z=>∃p2:MPr,p2.pl=⟨(protectedF D.sd p.R at_ n prot).1,p.pl.L⟩∧MaAt Z D (P.set k (some p2))∧MaN U Z D P (P.set k (some p2))∧AnAt Z a∧¬maO D (P.set k (some p2)) a) ⟨_,rfl,HFIN.out.1.1,HFIN.out.1.2,HFIN.out.2.1,HFIN.out.2.2⟩ ?_
 clear HFIN lP5 p05 pf5 lP p0 pf k0 k1 k2 k3 k4 k5 lbx5 lbx
 rintro Z ⟨p2,hpl,hma,hman,hau,hnot⟩
 have HMZ:=hJ hma
 have HNZ:=hJ hman
 have HAZ:=hJ hau
 have HNT:=hJ hnot
 have HPL:=hJ hpl
 obtain ⟨a0,a1,a2,a3,af⟩:=HAZ.out
 have f0:=af 0
 have f1:=af 1
 have f2:=af 2
 have f3:=af 3
 clear af
 have la:=lt_of_cell a0
 clear hma hman hau hnot hpl
 go_wp2
 have hoa:=ans_off Z a (.int .i64 0) (.int .i64 0) (.slice none 0 0) (.slice none 0 0)
 refine ans_end rfl HAZ.out ⟨p2,HPL.out,HMZ.out.off hoa (fun q hq e=>HNT.out (e ▸ hq)),HNZ.out.late HBU.out HLT.out hoa (fun q e=>by rw [e];exact HA.out),rfl⟩
end
end Go.Proofs.YtlhfjaagkgengaaGreat
