/- The document's machine: Do: pages are let go. The document's machine: Do: bytes are loaded, stored. -/
import Derived.Test.YtlhfjaagkgengaaGreatPC42
namespace Go.Proofs.YtlhfjaagkgengaaGreat
set_option maxRecDepth 100000
open Go.RowKit Go.Maps
set_option linter.unusedVariables false
set_option linter.unusedSimpArgs false
def MPr.setL (p:MPr) (A:Option Addr) (c:Nat) (L:List MPg):MPr:={p with LA:=A,Lc:=c,L:=L}
def keepU (a n:Int) (m:Nat):Bool:=decide ((m:Int)<a∨a+n≤m)
section
variable {w w' w4:World} {D:MaD} {P:List (Option MPr)} {p:MPr} {k z:Nat}
theorem setL_pl {p p1:MPr} {R:List Rg} {a n:Int} {F:MPg→Bool} (A:Option Addr) (c:Nat) (h:p1.pl=⟨R,p.pl.L⟩) (hF:F=fun x=>keepU a n x.n):(p1.setL A c (p1.L.filter F)).pl=⟨R,p.pl.L.filter fun q=>keepU a n q.1⟩:=by
 have h1:p1.R=R:=congrArg PrP.R h
 have h2:p1.L.map pgK=p.pl.L:=congrArg PrP.L h
 have h3:((p1.setL A c (p1.L.filter F)).pl:PrP)=⟨p1.R,(p1.L.filter F).map pgK⟩:=rfl
 rw [h3,h1,←h2,List.filter_map,hF]
 rfl
theorem PrAt.setL (h:PrAt w4 z p) {A:Option Addr} {n c:Nat} {L:List MPg} (hn:n=L.length) (hrow:OwE pgE 0 w4 (.slice A n c) L) (hs:L.Sublist p.L):PrAt (w4.setCell ⟨p.X,1,none⟩ (.slice A n c)) z (p.setL A c L)∧Off (· =p.X) w4 (w4.setCell ⟨p.X,1,none⟩ (.slice A n c))∧(p.setL A c L).lv=.slice A n c:=by
 subst hn
 have ho:Off (· =p.X) w4 (w4.setCell ⟨p.X,1,none⟩ (.slice A L.length c)):=(Off.refl (· =p.X) w4).setCell (p:=⟨p.X,1,none⟩) rfl _
 refine ⟨⟨?_,?_,?_,?_,?_,h.gs.sublist hs⟩,ho,rfl⟩
 · exact heap_setCell_same w4 p.X 1 _ 157 (.slice A L.length c) h.x0
 · exact h.rr.off ho fun k e e2=>h.ne_rX e e2
 · exact hrow.off ho fun k e e2=>own_block hrow h.x0 (by decide) e e2
 · exact fun y hy=>(h.bys y (hs.subset hy)).off ho fun k e e2=>by cases e;exact h.ne_gX (hs.subset hy) e2
 · have hsl:((p.setL A c L).pl.L).Sublist p.pl.L:=by rw [pl_L,pl_L];exact hs.map pgK
   exact ⟨h.ok.1.sublist hsl,fun q hq=>h.ok.2 q (hsl.subset hq)⟩
theorem MaAt.pgs (h:MaAt w D P) (hk:P[k]? =some (some p)) (hb:Below w.heap.size w w4) {A:Option Addr} {n c:Nat} {L:List MPg} (hn:n=L.length) (hrow:FrE pgE w w4 (.slice A n c) L) (hs:L.Sublist p.L):
 MaAt (w4.setCell ⟨p.X,1,none⟩ (.slice A n c)) D (P.set k (some (p.setL A c L)))∧MaN w (w4.setCell ⟨p.X,1,none⟩ (.slice A n c)) D P (P.set k (some (p.setL A c L))):=by
 have h4:=(h.get hk).up hb
 obtain ⟨h1,h2,h3⟩:=h4.setL hn (hrow.1.mono (Nat.zero_le _)) hs
 refine h.setPr hk rfl ((Off.of_below hb).trans (h2.mono fun q e=>.inl e)) h1 fun q hq=>?_
 rcases hq with e|e|e|⟨y,hy,e⟩
 · exact .inl (.inl e)
 · exact .inl (.inr (.inl e))
 · rw [h3] at e
   exact .inr (hrow.1.lt e).1
 · exact .inl (.inr (.inr (.inr ⟨y,hs.subset hy,e⟩)))
end
section
variable {w w':World} {D:MaD} {P:List (Option MPr)} {p:MPr} {k:Nat}
set_option maxHeartbeats 4000000 in
theorem do_unmap (h:MaAt w D P) (hk:P[k]? =some (some p)) (hrg:rightL D.ps p.R=true) (hrl:p.R.length≤1000) (hll:p.L.length≤100000) (at_ n prot:Int) (A:Option Addr) (m c:Nat) (hz:(unmappedF D.sd p.R at_ n).2=0) (HCH:Hid (∀V,Below w.heap.size w V→Calls Tryz.prog 88 #[.pointer (some ⟨D.X,0,none⟩),.agg #[.int .i64 3,.int .i64 (k:Nat),.int .i64 at_,.int .i64 n,.int .i64 prot,.slice A m c]] V fun e w'=>e=.returned (.int .i64 0)∧Below V.heap.size V w')):Calls Tryz.prog 70 #[.pointer (some ⟨D.X,0,none⟩),.agg #[.int .i64 3,.int .i64 (k:Nat),.int .i64 at_,.int .i64 n,.int .i64 prot,.slice A m c]] w (DoPr w D P k ⟨(unmappedF D.sd p.R at_ n).1,p.pl.L.filter fun q=>keepU at_ n q.1⟩):=by
 have HB0:Hid (Below w.heap.size w ((w.alloc (.cells #[.int .i64 3,.int .i64 (k:Nat),.int .i64 at_,.int .i64 n,.int .i64 prot,.slice A m c] 47)).alloc (.cells #[.int .i64 0,.int .i64 0,.slice none 0 0,.slice none 0 0] 76))):=hJ ((jB.alloc jN _).alloc (by simp) _)
 have HK:Hid (∀W,Below (w.alloc (.cells #[.int .i64 3,.int .i64 (k:Nat),.int .i64 at_,.int .i64 n,.int .i64 prot,.slice A m c] 47)).heap.size (w.alloc (.cells #[.int .i64 3,.int .i64 (k:Nat),.int .i64 at_,.int .i64 n,.int .i64 prot,.slice A m c] 47)) W→_):=hJ fun W hb=>op_cells hb
 go_enter Tryz.func70,Tryz.ntmps70
 go_wp2_with fail
 refine (HCH.out _ HB0.out).mono ?_
 rintro e w1 ⟨rfl,hb1⟩
 have hA:=(AnAt.new (w.alloc (.cells #[.int .i64 3,.int .i64 (k:Nat),.int .i64 at_,.int .i64 n,.int .i64 prot,.slice A m c] 47))).up hb1
 have hwo:(w.alloc (.cells #[.int .i64 3,.int .i64 (k:Nat),.int .i64 at_,.int .i64 n,.int .i64 prot,.slice A m c] 47)).heap.size=w.heap.size+1:=by simp
 have hk:=HK.out w1 ((jB.alloc jN _).trans (hb1.mono (by simp)))
 rw [hwo] at hA
 obtain ⟨a,ha⟩:∃a,w.heap.size+1=a:=⟨_,rfl⟩
 obtain ⟨bx,hbx⟩:∃bx,w.heap.size=bx:=⟨_,rfl⟩
 rw [ha] at hA ⊢
 rw [hbx] at hk ⊢
 have HAN:=hJ hA
 have HOP:=hJ hk
 have HB1:=hJ (HB0.out.trans (hb1.mono HB0.out.size))
 have HM1:=hJ (h.up HB1.out)
 have HA:=hJ (show w.heap.size≤a by omega)
 have HBX:=hJ (show w.heap.size≤bx by omega)
 obtain ⟨k0,k1,k2,k3,k4,k5⟩:=hk
 have lbx:=lt_of_cell k0
 have la:=lt_of_cell hA.c0
 have lX:=HM1.out.f.ltX
 have x9:=HM1.out.f.c9
 have HLT:Hid (∀q,maO D P q→q<w.heap.size):=hJ fun q hq=>h.lt hq
 clear hb1 HCH HB0 HK hA hwo ha hbx
 have HO1:=hJ (OpAt.of HOP.out)
 have x10:=HM1.out.f.c10
 obtain ⟨gq,hgq,lgq,hcq,_⟩:=HM1.out.f.qAt
 have q0:=hcq k (some p.X) (by rw [List.getElem?_map,hk];rfl)
 unfold MaD.qv at x10
 rw [hgq] at x10
 have hkn:k<D.n:=by rw [←HM1.out.len];exact (jS.1 hk).1
 have hkI:(k:Int)<(D.n:Int):=by omega
 have hk0:(0:Int)≤(k:Int):=by omega
 simp only [Option.map_some] at q0
 clear hcq hgq h HOP
 go_upto_region 11 with (fail)
 refine wp_region_up (by kernel_rfl) (by kernel_rfl) ?_
 repeat (go_big_quiet_step (fail))
 refine wpQuiet_nil ?_
 rintro _ ⟨g1,rfl⟩
 go_upto_region 12 with (fail)
 refine wp_forget (fun U=>Below w1.heap.size w1 U) g1.h ?_
 clear k0 k1 k2 k3 k4 k5 lbx la lX x9 x10 lgq q0
 rintro U hU
 have HBU:=hJ (HB1.out.trans (hU.mono HB1.out.size))
 have HU1:=hJ hU
 have HMU:=hJ (HM1.out.up hU)
 have HAU:=hJ (HAN.out.up hU)
 have HOU:=hJ (HO1.out.up hU)
 have HPU:=hJ (HMU.out.get hk)
 obtain ⟨k0,k1,k2,k3,k4,k5⟩:=HOU.out
 have lbx:=lt_of_cell k0
 clear hU
 have HRG:=hJ (maUnmap_any HMU.out.f HPU.out hrg hrl (k:Nat) at_ n prot (.slice A m c))
 have hpg:pagesB D.sd at_ n=true:=by
  cases hc:pagesB D.sd at_ n with
  |true=>rfl
  |false=>unfold unmappedF at hz;rw [if_pos hc] at hz;cases hz
 have hpg2:1≤n∧0≤at_∧n≤(D.ps:Int)∧at_≤(D.ps:Int)-n:=of_decide_eq_true hpg
 have hb8:=HMU.out.f.sok.b8
 change 1≤D.ps∧D.ps≤65536 at hb8
 have hsum:IntKind.i64.wrap (at_+n)=at_+n:=i64_small (by omega) (by omega)
 have lP:=HPU.out.ltX
 have p0:=HPU.out.c0
 have pf:=HPU.out.fz 0
 have HNU:Hid (¬maO D P a∧¬maO D P bx):=hJ ⟨fun hq=>by have:=HLT.out a hq;have:=HA.out;omega,fun hq=>by have:=HLT.out bx hq;have:=HBX.out;omega⟩
 clear hpg hpg2 hb8
 go_wp2_with fail
 refine HRG.out.mono ?_
 rintro e w5 ⟨A',n',c',rfl,hb5,hrow⟩
 obtain ⟨hn5,hf5⟩:=hrow hz
 have hreg:=HMU.out.regs hk hb5 hn5 hf5
 have hoX:Off (· =p.X) w5 (w5.setCell ⟨p.X,0,none⟩ (.slice A' n' c')):=(Off.refl (· =p.X) w5).setCell (p:=⟨p.X,0,none⟩) rfl _
 have hXa:p.X≠a:=fun e=>HNU.out.1 (.inr ⟨p,jG hk,.inl e.symm⟩)
 have hXb:p.X≠bx:=fun e=>HNU.out.2 (.inr ⟨p,jG hk,.inl e.symm⟩)
 have han:=(HAU.out.up hb5).off hoX (fun e=>hXa e.symm)
 have hop:=(HOU.out.up hb5).off hoX (fun e=>hXb e.symm)
 have HFIN:=hJ (And.intro hreg (And.intro han hop))
 have lP5:=Nat.lt_of_lt_of_le lP hb5.size
 have p05:=(hb5.cell (p:=⟨p.X,0,none⟩) lP).trans p0
 have pf5:=(hb5.frozen (p:=⟨p.X,0,none⟩) lP).trans pf
 have b5:=HOU.out.up hb5
 obtain ⟨k0,k1,k2,k3,k4,k5⟩:=b5
 have lbx5:=lt_of_cell k0
 have ne0:bx≠p.X:=fun e=>hXb e.symm
 clear hrow hreg hoX han hn5 hf5 hb5 HRG hop
 go_upto_region 18 with (fail)
 refine wp_forget (fun Z=>∃p1:MPr,p1.X=p.X∧p1.pl=⟨(unmappedF D.sd p.R at_ n).1,p.pl.L⟩∧p1.L.length≤100000∧MaAt Z D (P.set k (some p1))∧MaN U Z D P (P.set k (some p1))∧AnAt Z a∧OpAt Z bx 3 (k:Nat) at_ n prot (.slice A m c)) ⟨p.setR A' c' (unmappedF D.sd p.R at_ n).1,rfl,rfl,hll,HFIN.out.1.1,HFIN.out.1.2,HFIN.out.2.1,HFIN.out.2.2⟩ ?_
 clear HFIN lP5 p05 pf5 lP p0 pf k0 k1 k2 k3 k4 k5 lbx5 lbx hXa hXb ne0
 rintro Z ⟨p1,hX1,hpl1,hl1,hma1,hman1,han1,hop1⟩
 have HM1':=hJ hma1
 have HN1:=hJ hman1
 have HA1:=hJ han1
 have HO1':=hJ hop1
 have HX1:=hJ hX1
 have HPL1:=hJ hpl1
 have hkl:=(jS.1 hk).1
 have hk1:(P.set k (some p1))[k]? =some (some p1):=by rw [List.getElem?_set_self hkl]
 have HK1:=hJ hk1
 have HP1:=hJ (hma1.get hk1)
 rw [←hX1]
 obtain ⟨F,hF⟩:∃F:MPg→Bool,F=fun x=>keepU at_ n x.n:=⟨_,rfl⟩
 have HFF:Hid (∀x,F x=keepU at_ n x.n):=hJ fun x=>by rw [hF]
 clear hma1 hman1 han1 hop1 hX1 hpl1 hkl hk1 hF
 go_wp2
 go_loopw [9,10] (fun v i wr=>∃(j:Nat) (A':Option Addr) (c' q:Nat),j≤p1.L.length∧i=.int .i64 (j:Nat)∧v=.slice A' q c'∧Hid (q=((p1.L.take j).filter F).length)∧FrE pgE Z wr (.slice A' q c') ((p1.L.take j).filter F)) (fun _ i _=>p1.L.length-(intOf i).toNat)
 case atStart=>exact ⟨0,none,0,0,Nat.zero_le _,rfl,rfl,hJ rfl,FrE.nil pgE Z⟩
 case round=>
  obtain ⟨j,A1,c1,q,hj,rfl,rfl,HQ,hfr⟩:=hrel
  have HFR:=hJ hfr
  have hb:=hfr.2
  have hp1:=HP1.out.up hb
  have r1:=hp1.c1
  have lP:=hp1.ltX
  unfold MPr.lv at r1
  have ho1:=HO1'.out.up hb
  have k2:=ho1.c2
  have k3:=ho1.c3
  have lbx:=lt_of_cell k2
  by_cases hlt:j<p1.L.length
  · obtain ⟨x,hx⟩:∃x,p1.L[j]? =some x:=⟨_,jE hlt⟩
    obtain ⟨gL,oL,hA,hgL,hcL⟩:=hp1.pg.at_ (by omega)
    have r0:=hcL j x hx 0 _ rfl
    have r2:=hcL j x hx 1 _ rfl
    change wr.cell? ⟨gL,oL+j*2+0,none⟩=some (.int .i64 (x.n:Nat)) at r0
    change wr.cell? ⟨gL,oL+j*2+1,none⟩=some (.slice (some ⟨x.g,0,none⟩) x.b.length x.c) at r2
    rw [Nat.add_zero] at r0
    rw [hA] at r1
    have hjI:(j:Int)<(p1.L.length:Int):=by omega
    have hlf:((p1.L.take j).filter F).length≤j:=by
     have:=List.length_filter_le F (p1.L.take j)
     rw [List.length_take] at this
     omega
    have hnx:(p1.L.take (j+1)).filter F=(p1.L.take j).filter F ++ (if F x=true then [x] else []):=by
     rw [List.take_add_one,hx,List.filter_append]
     show _ ++ List.filter F [x]=_
     rw [List.filter_cons]
     split<;>rfl
    have HNX:=hJ hnx
    have hFx:=HFF.out x
    have pushed:Hid (F x=true→∀V2,Below wr.heap.size wr V2→∃A' c' w',(Builtin.append_ #[155,155] 155 #[.slice A1 q c1,.slice (some ⟨V2.heap.size,0,none⟩) 1 1]).run Tryz.prog (V2.alloc (.cells #[.int .i64 (x.n:Nat),.slice (some ⟨x.g,0,none⟩) x.b.length x.c] 154))=.ok (.slice A' (q+1) c') w'∧FrE pgE Z w' (.slice A' (q+1) c') ((p1.L.take (j+1)).filter F)):=hJ fun e V2 hV=>by
     obtain ⟨A2,c2,w3,hr3,hf3,_⟩:=(HFR.out.up hV).push x 154 (by have:=HQ.out;omega) 155
     rw [←HQ.out] at hr3 hf3
     rw [HNX.out,if_pos e]
     exact ⟨A2,c2,w3,hr3,hf3⟩
    have HF0:Hid (F x=false→FrE pgE Z wr (.slice A1 q c1) ((p1.L.take (j+1)).filter F)∧q=((p1.L.take (j+1)).filter F).length):=hJ fun e=>by
     rw [HNX.out,if_neg (by rw [e];simp),List.append_nil]
     exact ⟨HFR.out,HQ.out⟩
    have HQ1:Hid (F x=true→q+1=((p1.L.take (j+1)).filter F).length):=hJ fun e=>by
     rw [HNX.out,if_pos e,List.length_append,←HQ.out];rfl
    obtain ⟨xn,hxn⟩:∃xn,x.n=xn:=⟨_,rfl⟩
    rw [hxn] at r0 hFx pushed
    obtain ⟨bl,hbl⟩:∃bl,x.b.length=bl:=⟨_,rfl⟩
    rw [hbl] at r2 pushed
    obtain ⟨fx,hfx⟩:∃fx,F x=fx:=⟨_,rfl⟩
    rw [hfx] at pushed HF0 HQ1 hFx
    have lgL:=lt_of_cell r0
    clear hfr hb hp1 hx hA hcL hlf hnx hfx hbl hxn ho1 hgL
    by_cases h1:(xn:Int)<at_
    · have hd1:decide ((xn:Int)<at_)=true:=decide_eq_true h1
      obtain rfl:fx=true:=by rw [hFx];exact decide_eq_true (.inl h1)
      have HPU2:=hJ (pushed.out rfl)
      have HQ2:=hJ (HQ1.out rfl)
      clear pushed HF0 HQ1 hFx
      go_upto_region 22 with (fail)
      go_quiet (fail)
      obtain ⟨A2,c2,w3,hr3,hf3⟩:=HPU2.out (wr.drewN nq) ⟨rfl,rfl,rfl,Nat.le_refl _,fun _ _=>rfl⟩
      have HF3:=hJ hf3
      clear hf3
      go_wp2_with (at_builtin;go_must (refine wpList_append_run rfl (.tmp 124) (.tmp 132) 155 rfl _ _ rfl rfl hr3 ?_))
      go_roundw
      case rel=>exact ⟨j+1,A2,c2,q+1,hlt,by go_num,rfl,HQ2,HF3.out⟩
      case measure=>simp [intOf];omega
    · have hd1:decide ((xn:Int)<at_)=false:=decide_eq_false h1
      by_cases h2:at_+n≤(xn:Int)
      · have hd2:decide (at_+n≤(xn:Int))=true:=decide_eq_true h2
        obtain rfl:fx=true:=by rw [hFx];exact decide_eq_true (.inr h2)
        have HPU2:=hJ (pushed.out rfl)
        have HQ2:=hJ (HQ1.out rfl)
        clear pushed HF0 HQ1 hFx
        go_upto_region 22 with (fail)
        go_quiet (fail)
        obtain ⟨A2,c2,w3,hr3,hf3⟩:=HPU2.out (wr.drewN nq) ⟨rfl,rfl,rfl,Nat.le_refl _,fun _ _=>rfl⟩
        have HF3:=hJ hf3
        clear hf3
        go_wp2_with (at_builtin;go_must (refine wpList_append_run rfl (.tmp 124) (.tmp 132) 155 rfl _ _ rfl rfl hr3 ?_))
        go_roundw
        case rel=>exact ⟨j+1,A2,c2,q+1,hlt,by go_num,rfl,HQ2,HF3.out⟩
        case measure=>simp [intOf];omega
      · have hd2:decide (at_+n≤(xn:Int))=false:=decide_eq_false h2
        obtain rfl:fx=false:=by rw [hFx];exact decide_eq_false (by omega)
        have HF2:=hJ (HF0.out rfl)
        clear pushed HF0 HQ1 hFx
        go_upto_region 22 with (fail)
        go_quiet (fail)
        go_wp2
        go_roundw
        case rel=>exact ⟨j+1,A1,c1,q,hlt,by go_num,rfl,hJ HF2.out.2,HF2.out.1.up ⟨rfl,rfl,rfl,Nat.le_refl _,fun _ _=>rfl⟩⟩
        case measure=>simp [intOf];omega
  · obtain rfl:j=p1.L.length:=by omega
    have hii:¬(p1.L.length:Int)<(p1.L.length:Int):=by omega
    rw [List.take_length] at HQ HFR
    have hpgs:=HM1'.out.pgs HK1.out hb HQ.out HFR.out (List.filter_sublist)
    have hoX:Off (· =p1.X) wr (wr.setCell ⟨p1.X,1,none⟩ (.slice A1 q c1)):=(Off.refl (· =p1.X) wr).setCell (p:=⟨p1.X,1,none⟩) rfl _
    have hXa:p1.X≠a:=fun e=>HNU.out.1 (.inr ⟨p,jG hk,.inl (by rw [←e];exact HX1.out)⟩)
    have han:=(HA1.out.up hb).off hoX (fun e=>hXa e.symm)
    have hss:(P.set k (some p1)).set k (some (p1.setL A1 c1 (p1.L.filter F)))=P.set k (some (p1.setL A1 c1 (p1.L.filter F))):=List.set_set ..
    rw [hss] at hpgs
    have hpln:=setL_pl A1 c1 HPL1.out (funext HFF.out:F=fun x=>keepU at_ n x.n)
    have hnot:¬maO D (P.set k (some (p1.setL A1 c1 (p1.L.filter F)))) a:=fun hq=>by
     rcases (HN1.out.trans hpgs.2).own a hq with e|e
     · exact HNU.out.1 e
     · have:=lt_of_cell HAU.out.c0;omega
    have HFIN:=hJ (And.intro hpgs (And.intro han (And.intro hpln hnot)))
    have pf:=hp1.fz 1
    clear hfr hb hp1 hpgs hoX han hss hpln hnot ho1 hXa
    go_upto_region 44 with (fail)
    refine wp_forget (fun Z=>∃p2:MPr,p2.pl=⟨(unmappedF D.sd p.R at_ n).1,p.pl.L.filter fun q=>keepU at_ n q.1⟩∧MaAt Z D (P.set k (some p2))∧MaN U Z D P (P.set k (some p2))∧AnAt Z a∧¬maO D (P.set k (some p2)) a) ⟨_,HFIN.out.2.2.1,HFIN.out.1.1,HN1.out.trans HFIN.out.1.2,HFIN.out.2.1,HFIN.out.2.2.2⟩ ?_
    clear HFIN lP r1 pf k2 k3 lbx
    rintro Z ⟨p2,hpl,hma,hman,hau,hnot⟩
    have HMZ:=hJ hma
    have HNZ:=hJ hman
    have HAZ:=hJ hau
    have HNT:=hJ hnot
    have HPL:=hJ hpl
    obtain ⟨a0,a1,a2,a3,af⟩:=HAZ.out
    have f0:=af 0
    have f1:=af 1
    have f2:=af 2
    have f3:=af 3
    clear af
    have la:=lt_of_cell a0
    clear hma hman hau hnot hpl
    go_wp2
    have hoa:=ans_off Z a (.int .i64 0) (.int .i64 0) (.slice none 0 0) (.slice none 0 0)
    refine ans_end rfl HAZ.out ⟨p2,HPL.out,HMZ.out.off hoa (fun q hq e=>HNT.out (e ▸ hq)),HNZ.out.late HBU.out HLT.out hoa (fun q e=>by rw [e];exact HA.out),rfl⟩
end
set_option maxRecDepth 100000
def ldN (z:Nat) (L:PgL) (a j:Nat):Bytes:=(List.range j).map fun i=>ldB z L (a+i)
theorem ldN_len (z:Nat) (L:PgL) (a j:Nat):(ldN z L a j).length=j:=by simp [ldN]
theorem ldN_snoc (z:Nat) (L:PgL) (a j:Nat):ldN z L a (j+1)=ldN z L a j ++ [ldB z L (a+j)]:=by
 unfold ldN
 rw [List.range_succ,List.map_append]
 rfl
theorem stB_len (z:Nat) (a:Nat) (x:UInt8):∀(L:PgL),(stB z L a x).length≤L.length+1
 |[]=>by simp [stB]
 | p ::L=>by
   have:=stB_len z a x L
   unfold stB
   split
   · simp only [List.length_cons];omega
   · split
     · simp
     · simp
section
variable {w w':World} {D:MaD} {P:List (Option MPr)} {p:MPr} {k:Nat}
def DoLd (w:World) (D:MaD) (p:MPr) (a nn:Nat) (e:Ending) (w':World):Prop:=
 ∃A' c',e=.returned (ansV 0 0 (.slice A' nn c') (.slice none 0 0))∧FrB w w' (.slice A' nn c') (ldN D.z p.pl.L a nn)
set_option maxHeartbeats 4000000 in
theorem do_load (h:MaAt w D P) (hk:P[k]? =some (some p)) (hll:p.L.length≤100000) (av nn:Nat) (hav:av+nn≤268435456) (prot:Int) (A:Option Addr) (m c:Nat) (HCH:Hid (∀V,Below w.heap.size w V→Calls Tryz.prog 88 #[.pointer (some ⟨D.X,0,none⟩),.agg #[.int .i64 5,.int .i64 (k:Nat),.int .i64 (av:Nat),.int .i64 (nn:Nat),.int .i64 prot,.slice A m c]] V fun e w'=>e=.returned (.int .i64 0)∧Below V.heap.size V w')):Calls Tryz.prog 70 #[.pointer (some ⟨D.X,0,none⟩),.agg #[.int .i64 5,.int .i64 (k:Nat),.int .i64 (av:Nat),.int .i64 (nn:Nat),.int .i64 prot,.slice A m c]] w (DoLd w D p av nn):=by
 have HB0:Hid (Below w.heap.size w ((w.alloc (.cells #[.int .i64 5,.int .i64 (k:Nat),.int .i64 (av:Nat),.int .i64 (nn:Nat),.int .i64 prot,.slice A m c] 47)).alloc (.cells #[.int .i64 0,.int .i64 0,.slice none 0 0,.slice none 0 0] 76))):=hJ ((jB.alloc jN _).alloc (by simp) _)
 have HK:Hid (∀W,Below (w.alloc (.cells #[.int .i64 5,.int .i64 (k:Nat),.int .i64 (av:Nat),.int .i64 (nn:Nat),.int .i64 prot,.slice A m c] 47)).heap.size (w.alloc (.cells #[.int .i64 5,.int .i64 (k:Nat),.int .i64 (av:Nat),.int .i64 (nn:Nat),.int .i64 prot,.slice A m c] 47)) W→_):=hJ fun W hb=>op_cells hb
 go_enter Tryz.func70,Tryz.ntmps70
 go_wp2_with fail
 refine (HCH.out _ HB0.out).mono ?_
 rintro e w1 ⟨rfl,hb1⟩
 have hA:=(AnAt.new (w.alloc (.cells #[.int .i64 5,.int .i64 (k:Nat),.int .i64 (av:Nat),.int .i64 (nn:Nat),.int .i64 prot,.slice A m c] 47))).up hb1
 have hwo:(w.alloc (.cells #[.int .i64 5,.int .i64 (k:Nat),.int .i64 (av:Nat),.int .i64 (nn:Nat),.int .i64 prot,.slice A m c] 47)).heap.size=w.heap.size+1:=by simp
 have hk:=HK.out w1 ((jB.alloc jN _).trans (hb1.mono (by simp)))
 rw [hwo] at hA
 obtain ⟨a,ha⟩:∃a,w.heap.size+1=a:=⟨_,rfl⟩
 obtain ⟨bx,hbx⟩:∃bx,w.heap.size=bx:=⟨_,rfl⟩
 rw [ha] at hA ⊢
 rw [hbx] at hk ⊢
 have HAN:=hJ hA
 have HOP:=hJ hk
 have HB1:=hJ (HB0.out.trans (hb1.mono HB0.out.size))
 have HM1:=hJ (h.up HB1.out)
 have HA:=hJ (show w.heap.size≤a by omega)
 have HBX:=hJ (show w.heap.size≤bx by omega)
 obtain ⟨k0,k1,k2,k3,k4,k5⟩:=hk
 have lbx:=lt_of_cell k0
 have la:=lt_of_cell hA.c0
 have lX:=HM1.out.f.ltX
 have x9:=HM1.out.f.c9
 have HLT:Hid (∀q,maO D P q→q<w.heap.size):=hJ fun q hq=>h.lt hq
 clear hb1 HCH HB0 HK hA hwo ha hbx
 have HO1:=hJ (OpAt.of HOP.out)
 have x10:=HM1.out.f.c10
 obtain ⟨gq,hgq,lgq,hcq,_⟩:=HM1.out.f.qAt
 have q0:=hcq k (some p.X) (by rw [List.getElem?_map,hk];rfl)
 unfold MaD.qv at x10
 rw [hgq] at x10
 have hkn:k<D.n:=by rw [←HM1.out.len];exact (jS.1 hk).1
 have hkI:(k:Int)<(D.n:Int):=by omega
 have hk0:(0:Int)≤(k:Int):=by omega
 simp only [Option.map_some] at q0
 clear hcq hgq h HOP
 go_upto_region 11 with (fail)
 refine wp_region_up (by kernel_rfl) (by kernel_rfl) ?_
 repeat (go_big_quiet_step (fail))
 refine wpQuiet_nil ?_
 rintro _ ⟨g1,rfl⟩
 go_upto_region 12 with (fail)
 refine wp_forget (fun U=>Below w1.heap.size w1 U) g1.h ?_
 clear k0 k1 k2 k3 k4 k5 lbx la lX x9 x10 lgq q0
 rintro U hU
 have HBU:=hJ (HB1.out.trans (hU.mono HB1.out.size))
 have HU1:=hJ hU
 have HMU:=hJ (HM1.out.up hU)
 have HAU:=hJ (HAN.out.up hU)
 have HOU:=hJ (HO1.out.up hU)
 have HPU:=hJ (HMU.out.get hk)
 obtain ⟨k0,k1,k2,k3,k4,k5⟩:=HOU.out
 have lbx:=lt_of_cell k0
 clear hU
 have HPZ:=hJ hk
 go_wp2
 go_loopw [11,12] (fun v i wr=>∃(j:Nat) (A':Option Addr) (c':Nat),j≤nn∧i=.int .i64 (j:Nat)∧v=.slice A' j c'∧FrB U wr (.slice A' j c') (ldN D.z p.pl.L av j)) (fun _ i _=>nn-(intOf i).toNat)
 case atStart=>exact ⟨0,none,0,Nat.zero_le _,rfl,rfl,FrB.empty U⟩
 case round=>
  obtain ⟨j,A1,c1,hj,rfl,rfl,hfr⟩:=hrel
  have HFR:=hJ hfr
  have hb:=hfr.bel
  have ho1:=HOU.out.up hb
  have k2:=ho1.c2
  have k3:=ho1.c3
  have lbx:=lt_of_cell k2
  by_cases hlt:j<nn
  · have hjI:(j:Int)<(nn:Int):=by omega
    have HLD:Hid (Calls Tryz.prog 114 #[.pointer (some ⟨D.X,0,none⟩),.pointer (some ⟨p.X,0,none⟩),.int .i64 ((av:Int)+(j:Int))] wr fun e w'=>e=.returned (.int .u8 ((ldB D.z p.pl.L (av+j)).toNat:Nat))∧Below wr.heap.size wr w'):=hJ (by
     have hm:=HMU.out.up hb
     have h1:=maLoad_any hm.f (HPU.out.up hb) (by omega) (av+j) (by omega)
     rw [Int.natCast_add] at h1
     refine h1.mono ?_
     rintro e w' ⟨h2,q,h3⟩
     exact ⟨h2,by rw [h3];exact below_drewN jB q⟩)
    have HSN:=hJ (ldN_snoc D.z p.pl.L av j)
    have HLN:=hJ (ldN_len D.z p.pl.L av j)
    obtain ⟨v,hv⟩:∃v,ldB D.z p.pl.L (av+j)=v:=⟨_,rfl⟩
    rw [hv] at HLD HSN
    have hsum:IntKind.i64.wrap ((av:Int)+(j:Int))=(av:Int)+(j:Int):=IntWalk.i64_in _ (by omega)
    clear hfr hb ho1 hv
    go_wp2_with fail
    refine HLD.out.mono ?_
    rintro e w2 ⟨rfl,hb2⟩
    have hfr2:=HFR.out.up hb2
    have hfr3:=hfr2.alloc (.cells #[.int .u8 (v.toNat:Nat)] 5)
    have hsb:SBy (w2.alloc (.cells #[.int .u8 (v.toNat:Nat)] 5)) (some ⟨w2.heap.size,0,none⟩) 1 [v]:=by
     have:=SBy.one w2 (UInt8.toNat_lt v) 5
     rw [b8_toNat] at this
     exact this
    obtain ⟨v3,w3,hr3,ho3,hg3,_⟩:=run_app (c:=1) hfr3.own hsb hfr3.bel.size (by rw [HLN.out];omega) 24
    rw [←HSN.out] at ho3
    obtain ⟨A3,c3,rfl,_⟩:=ho3.form
    rw [ldN_len] at hr3 ho3
    have HF3:Hid (FrB U w3 (.slice A3 (j+1) c3) (ldN D.z p.pl.L av (j+1))):=hJ ⟨ho3,hfr3.own.below hfr3.bel hg3 hfr3.bel.size⟩
    clear hb2 hfr2 hfr3 hsb ho3 hg3 HLD
    go_wp2_with (at_builtin;go_must (refine wpList_append_run rfl (.tmp 146) (.tmp 154) 24 rfl _ _ rfl rfl hr3 ?_))
    go_roundw
    case rel=>exact ⟨j+1,A3,c3,hlt,by go_num,rfl,HF3.out⟩
    case measure=>simp [intOf];omega
  · obtain rfl:j=nn:=by omega
    have hii:¬(j:Int)<(j:Int):=by omega
    have HAZ:=hJ (HAU.out.up hb)
    obtain ⟨a0,a1,a2,a3,af⟩:=HAZ.out
    have f0:=af 0
    have f1:=af 1
    have f2:=af 2
    have f3:=af 3
    clear af
    have la:=lt_of_cell a0
    have hs1:=HBU.out.size
    have HSZ:=hJ (lt_of_cell HAU.out.c0)
    clear hfr hb ho1
    go_wp2
    have hoa:=ans_off wr a (.int .i64 0) (.int .i64 0) (.slice A1 j c1) (.slice none 0 0)
    refine ans_end rfl HAZ.out ⟨A1,c1,rfl,⟨(HFR.out.own.off hoa fun k e e2=>?_).mono hs1,(HBU.out.trans (HFR.out.bel.mono hs1)).trans (hoa.below (fun k e=>by rw [e];exact HA.out) (Nat.le_trans hs1 HFR.out.bel.size))⟩⟩
    have:=(HFR.out.own.lt k e).1
    have:=HSZ.out
    omega
set_option maxHeartbeats 4000000 in
theorem do_store (h:MaAt w D P) (hk:P[k]? =some (some p)) (av:Nat) (n prot:Int) (A:Option Addr) (m c:Nat) {data:Bytes} (hav:av+m≤268435456) (hll:p.L.length+m≤100000) (hS:SBy w A m data) (hdat:∀g o,0<m→A=some ⟨g,o,none⟩→¬maO D P g) (HCH:Hid (∀V,Below w.heap.size w V→Calls Tryz.prog 88 #[.pointer (some ⟨D.X,0,none⟩),.agg #[.int .i64 6,.int .i64 (k:Nat),.int .i64 (av:Nat),.int .i64 n,.int .i64 prot,.slice A m c]] V fun e w'=>e=.returned (.int .i64 0)∧Below V.heap.size V w')):Calls Tryz.prog 70 #[.pointer (some ⟨D.X,0,none⟩),.agg #[.int .i64 6,.int .i64 (k:Nat),.int .i64 (av:Nat),.int .i64 n,.int .i64 prot,.slice A m c]] w (DoPr w D P k ⟨p.R,stL D.z p.pl.L av data⟩):=by
 have HB0:Hid (Below w.heap.size w ((w.alloc (.cells #[.int .i64 6,.int .i64 (k:Nat),.int .i64 (av:Nat),.int .i64 n,.int .i64 prot,.slice A m c] 47)).alloc (.cells #[.int .i64 0,.int .i64 0,.slice none 0 0,.slice none 0 0] 76))):=hJ ((jB.alloc jN _).alloc (by simp) _)
 have HK:Hid (∀W,Below (w.alloc (.cells #[.int .i64 6,.int .i64 (k:Nat),.int .i64 (av:Nat),.int .i64 n,.int .i64 prot,.slice A m c] 47)).heap.size (w.alloc (.cells #[.int .i64 6,.int .i64 (k:Nat),.int .i64 (av:Nat),.int .i64 n,.int .i64 prot,.slice A m c] 47)) W→_):=hJ fun W hb=>op_cells hb
 go_enter Tryz.func70,Tryz.ntmps70
 go_wp2_with fail
 refine (HCH.out _ HB0.out).mono ?_
 rintro e w1 ⟨rfl,hb1⟩
 have hA:=(AnAt.new (w.alloc (.cells #[.int .i64 6,.int .i64 (k:Nat),.int .i64 (av:Nat),.int .i64 n,.int .i64 prot,.slice A m c] 47))).up hb1
 have hwo:(w.alloc (.cells #[.int .i64 6,.int .i64 (k:Nat),.int .i64 (av:Nat),.int .i64 n,.int .i64 prot,.slice A m c] 47)).heap.size=w.heap.size+1:=by simp
 have hk:=HK.out w1 ((jB.alloc jN _).trans (hb1.mono (by simp)))
 rw [hwo] at hA
 obtain ⟨a,ha⟩:∃a,w.heap.size+1=a:=⟨_,rfl⟩
 obtain ⟨bx,hbx⟩:∃bx,w.heap.size=bx:=⟨_,rfl⟩
 rw [ha] at hA ⊢
 rw [hbx] at hk ⊢
 have HAN:=hJ hA
 have HOP:=hJ hk
 have HB1:=hJ (HB0.out.trans (hb1.mono HB0.out.size))
 have HM1:=hJ (h.up HB1.out)
 have HA:=hJ (show w.heap.size≤a by omega)
 have HBX:=hJ (show w.heap.size≤bx by omega)
 obtain ⟨k0,k1,k2,k3,k4,k5⟩:=hk
 have lbx:=lt_of_cell k0
 have la:=lt_of_cell hA.c0
 have lX:=HM1.out.f.ltX
 have x9:=HM1.out.f.c9
 have HLT:Hid (∀q,maO D P q→q<w.heap.size):=hJ fun q hq=>h.lt hq
 clear hb1 HCH HB0 HK hA hwo ha hbx
 have HO1:=hJ (OpAt.of HOP.out)
 have x10:=HM1.out.f.c10
 obtain ⟨gq,hgq,lgq,hcq,_⟩:=HM1.out.f.qAt
 have q0:=hcq k (some p.X) (by rw [List.getElem?_map,hk];rfl)
 unfold MaD.qv at x10
 rw [hgq] at x10
 have hkn:k<D.n:=by rw [←HM1.out.len];exact (jS.1 hk).1
 have hkI:(k:Int)<(D.n:Int):=by omega
 have hk0:(0:Int)≤(k:Int):=by omega
 simp only [Option.map_some] at q0
 clear hcq hgq h HOP
 go_upto_region 11 with (fail)
 refine wp_region_up (by kernel_rfl) (by kernel_rfl) ?_
 repeat (go_big_quiet_step (fail))
 refine wpQuiet_nil ?_
 rintro _ ⟨g1,rfl⟩
 go_upto_region 12 with (fail)
 refine wp_forget (fun U=>Below w1.heap.size w1 U) g1.h ?_
 clear k0 k1 k2 k3 k4 k5 lbx la lX x9 x10 lgq q0
 rintro U hU
 have HBU:=hJ (HB1.out.trans (hU.mono HB1.out.size))
 have HU1:=hJ hU
 have HMU:=hJ (HM1.out.up hU)
 have HAU:=hJ (HAN.out.up hU)
 have HOU:=hJ (HO1.out.up hU)
 have HPU:=hJ (HMU.out.get hk)
 obtain ⟨k0,k1,k2,k3,k4,k5⟩:=HOU.out
 have lbx:=lt_of_cell k0
 clear hU
 have HNU:Hid (¬maO D P a∧¬maO D P bx):=hJ ⟨fun hq=>by have:=HLT.out a hq;have:=HA.out;omega,fun hq=>by have:=HLT.out bx hq;have:=HBX.out;omega⟩
 have hkl:=(jS.1 hk).1
 have HDU:Hid (∀V,Off (maO D P) U V→∀j,j<m→∃g o,A=some ⟨g,o,none⟩∧g<V.heap.size∧V.cell? ⟨g,o+j,none⟩=some (.int .u8 (at8 data j:Nat))):=hJ fun V hV j hj=>by
  obtain ⟨g,o,e,hg,hc⟩:=hS.2 (by omega)
  have h1:U.cell? ⟨g,o+j,none⟩=some (.int .u8 (at8 data j:Nat)):=(HBU.out.cell (p:=⟨g,o+j,none⟩) hg).trans (hc j hj)
  exact ⟨g,o,e,Nat.lt_of_lt_of_le (lt_of_cell h1) hV.size,(hV.cell (p:=⟨g,o+j,none⟩) (lt_of_cell h1) (hdat g o (by omega) e)).trans h1⟩
 have HML:=hJ hS.1
 have HKK:=hJ hk
 have HKL:=hJ hkl
 clear hdat hS hkl
 go_wp2
 go_loopw [13] (fun i wr=>∃(j:Nat) (p':MPr),j≤m∧i=.int .i64 (j:Nat)∧p'.X=p.X∧p'.L.length≤p.L.length+j∧MaAt wr D (P.set k (some p'))∧MaN U wr D P (P.set k (some p'))∧p'.pl=⟨p.R,stL D.z p.pl.L av (data.take j)⟩) (fun i _=>m-(intOf i).toNat)
 case atStart=>
  have hss:P.set k (some p)=P:=by
   apply List.ext_getElem?
   intro i
   rw [List.getElem?_set]
   split
   · rename_i e
     subst e
     rw [if_pos HKL.out,HKK.out]
   · rfl
  exact ⟨0,p,Nat.zero_le _,rfl,rfl,by omega,by rw [hss];exact HMU.out,by rw [hss];exact MaN.refl,rfl⟩
 case round=>
  obtain ⟨j,p',hj,rfl,hX,hlen,hma,hman,hpl⟩:=hrel
  have HMA:=hJ hma
  have HMN:=hJ hman
  have HPL:=hJ hpl
  have HX:=hJ hX
  have ho1:=HOU.out.off hman.off (fun e=>HNU.out.2 e)
  have k2:=ho1.c2
  have k5:=ho1.c5
  have lbx:=lt_of_cell k2
  by_cases hlt:j<m
  · have hjI:(j:Int)<(m:Int):=by omega
    have hk1:(P.set k (some p'))[k]? =some (some p'):=by rw [List.getElem?_set_self HKL.out]
    have hpa:=hma.get hk1
    obtain ⟨gd,od,hAd,lgd,d0⟩:=HDU.out wr hman.off j hlt
    have hdl:j<data.length:=by rw [HML.out];exact hlt
    obtain ⟨v,hv⟩:∃v,data[j]=v:=⟨_,rfl⟩
    have hav1:at8 data j=v.toNat:=by rw [at8_get hdl,hv]
    rw [hav1] at d0
    have hsum:IntKind.i64.wrap ((av:Int)+(j:Int))=(av:Int)+(j:Int):=IntWalk.i64_in _ (by omega)
    have HST:Hid (∀V,Below wr.heap.size wr V→Calls Tryz.prog 115 #[.pointer (some ⟨D.X,0,none⟩),.pointer (some ⟨p.X,0,none⟩),.int .i64 ((av:Int)+(j:Int)),.int .u8 (v.toNat:Nat)] V (PbPost V D.z p' (av+j) v)):=hJ fun V hV=>by
     have h1:=maStore_any (hma.up hV).f (hpa.up hV) (fun q hq e=>hma.sep p' (jG hk1) q hq (.inl e)) (by omega) (av+j) (by omega) v
     rw [hX,Int.natCast_add] at h1
     exact h1
    have HNEXT:Hid (∀V W e,Below wr.heap.size wr V→PbPost V D.z p' (av+j) v e W→e=.returned (.tuple #[])∧∃p2:MPr,p2.X=p.X∧p2.L.length≤p.L.length+(j+1)∧MaAt W D (P.set k (some p2))∧MaN U W D P (P.set k (some p2))∧p2.pl=⟨p.R,stL D.z p.pl.L av (data.take (j+1))⟩):=hJ fun V W e hV hp=>by
     obtain ⟨h0,p2,h1,h2,h3,h4,h5,h6⟩:=hp
     obtain ⟨g1,g2⟩:=(hma.up hV).setPr hk1 h1 h4 h3 h5
     rw [List.set_set] at g1 g2
     have e1:p'.R=p.R:=congrArg PrP.R hpl
     have e2:p'.pl.L=stL D.z p.pl.L av (data.take j):=congrArg PrP.L hpl
     have e3:p2.pl.L=stL D.z p.pl.L av (data.take (j+1)):=by
      rw [h6,e2,List.take_add_one,jE hdl,hv]
      show _=stL D.z p.pl.L av (data.take j ++ [v])
      rw [stL_snoc,List.length_take,Nat.min_eq_left (by omega)]
     refine ⟨h0,p2,h1.trans hX,?_,g1,(hman.up hV).trans g2,?_⟩
     · have l1:p2.L.length=p2.pl.L.length:=by rw [pl_L,List.length_map]
       have l2:p'.L.length=p'.pl.L.length:=by rw [pl_L,List.length_map]
       have:=stB_len D.z (av+j) v p'.pl.L
       rw [←h6] at this
       omega
     · show (⟨p2.R,p2.pl.L⟩:PrP)=_
       rw [h2,e1,e3]
    rw [hAd] at k5
    have hmI:(j:Int)<((m:Nat):Int):=hjI
    clear hma hman hpl ho1 hk1 hpa hX hv hav1 hlen hAd hdl
    go_upto_region 36 with (fail)
    refine wp_region_up_tail 11 (by kernel_rfl) (by kernel_rfl) (by kernel_rfl) ?_
    simp only [List.take_succ_cons,List.take_zero,List.drop_succ_cons,List.drop_zero]
    repeat (go_big_quiet_step (fail))
    refine wpQuiet_nil ?_
    rintro _ ⟨g,rfl⟩
    go_wp2_with fail
    refine (HST.out _ g.h).mono ?_
    intro e w3 hpb
    obtain ⟨rfl,p2,y1,y2,y3,y4,y5⟩:=HNEXT.out _ _ _ g.h hpb
    have HY:=hJ (And.intro y1 (And.intro y2 (And.intro y3 (And.intro y4 y5))))
    clear hpb y1 y2 y3 y4 y5 HST HNEXT
    go_wp2
    go_roundw
    case rel=>exact ⟨j+1,p2,hlt,by go_num,HY.out.1,HY.out.2.1,HY.out.2.2.1,HY.out.2.2.2.1,HY.out.2.2.2.2⟩
    case measure=>simp [intOf];omega
  · obtain rfl:j=m:=by omega
    have hii:¬(j:Int)<(j:Int):=by omega
    have HAZ:=hJ (HAU.out.off hman.off (fun e=>HNU.out.1 e))
    have HPE:Hid (p'.pl=⟨p.R,stL D.z p.pl.L av data⟩):=hJ (by
     rw [HPL.out,List.take_of_length_le (by rw [HML.out];exact Nat.le_refl _)])
    have HNT:Hid (¬maO D (P.set k (some p')) a):=hJ fun hq=>by
     rcases HMN.out.own a hq with e|e
     · exact HNU.out.1 e
     · have:=lt_of_cell HAU.out.c0;omega
    obtain ⟨a0,a1,a2,a3,af⟩:=HAZ.out
    have f0:=af 0
    have f1:=af 1
    have f2:=af 2
    have f3:=af 3
    clear af
    have la:=lt_of_cell a0
    clear hma hman hpl ho1
    go_wp2
    have hoa:=ans_off wr a (.int .i64 0) (.int .i64 0) (.slice none 0 0) (.slice none 0 0)
    refine ans_end rfl HAZ.out ⟨p',HPE.out,HMA.out.off hoa (fun q hq e=>HNT.out (e ▸ hq)),HMN.out.late HBU.out HLT.out hoa (fun q e=>by rw [e];exact HA.out),rfl⟩
end
end Go.Proofs.YtlhfjaagkgengaaGreat
