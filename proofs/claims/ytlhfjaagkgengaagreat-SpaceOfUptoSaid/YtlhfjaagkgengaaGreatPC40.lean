/- The document's machine: a byte is stored, walked. -/
import Derived.Test.YtlhfjaagkgengaaGreatPC38
namespace Go.Proofs.YtlhfjaagkgengaaGreat
set_option maxRecDepth 100000
open Go.RowKit Go.Maps
set_option linter.unusedVariables false
set_option linter.unusedSimpArgs false
def PbPost (w:World) (z:Nat) (p:MPr) (a:Nat) (v:UInt8) (e:Ending) (w':World):Prop:=
 e=.returned (.tuple #[])∧∃p':MPr,p'.X=p.X∧p'.R=p.R∧PrAt w' z p'∧Off p.own w w'∧(∀q,p'.own q→p.own q∨w.heap.size≤q)∧p'.pl.L=stB z p.pl.L a v
structure MidS (w W:World) (z:Nat) (p:MPr) (a i:Nat) (p':MPr) (x:MPg):Prop where
 X:p'.X=p.X
 R:p'.R=p.R
 at_:PrAt W z p'
 off:Off p.own w W
 own:∀q,p'.own q→p.own q∨w.heap.size≤q
 get:p'.L[i]? =some x
 pl:∀v,(p'.setB i x (a%z) v).pl.L=stB z p.pl.L a v
 len:p'.L.length≤200000
theorem MidS.fin {w W:World} {z:Nat} {p:MPr} {a i:Nat} {p':MPr} {x:MPg} (h:MidS w W z p a i p' x) (v:UInt8):PbPost w z p a v (.returned (.tuple #[])) (W.setCell ⟨x.g,a%z,none⟩ (bv v)):=by
 obtain ⟨h1,h2,h3⟩:=h.at_.setB h.get (a%z) v
 exact ⟨rfl,p'.setB i x (a%z) v,h.X,h.R,h1,h.off.late h2 (fun k hk e=>by
  rw [e] at hk ⊢
  rcases h.own x.g (.inr (.inr (.inr ⟨x,jG h.get,rfl⟩))) with e2|e2
  · exact e2
  · omega),fun q hq=>h.own q (h3 q hq),h.pl v⟩
theorem own_row_ge {E:Type} {F:El E} {V W:World} {v:Value} {L:List E} (h:FrE F V W v L):∀k,v.ownBlock=some k→V.heap.size≤k:=fun k e=>(h.1.lt e).1
section
variable {w w':World} {D:MaD} {B:List Bool} {Q:List (Option Nat)} {p:MPr}
set_option maxHeartbeats 16000000 in
theorem maStore_any (h:MaF w D B Q) (hp:PrAt w D.z p) (hsep:∀q,p.own q→q≠D.X) (hl:p.L.length≤100000) (a:Nat) (ha:a≤4294967296) (v:UInt8):
 Calls Tryz.prog 115 #[.pointer (some ⟨D.X,0,none⟩),.pointer (some ⟨p.X,0,none⟩),.int .i64 (a:Nat),.int .u8 (v.toNat:Nat)] w (PbPost w D.z p a v):=by
 have c4:=h.cc 4 (by omega)
 rw [h.ez] at c4
 have lX:=h.ltX
 have lP:=hp.ltX
 have c1:=hp.c1
 have fz1:=hp.fz 1
 have hb4:=h.sok.b4
 change 16≤D.z∧D.z≤4096 at hb4
 unfold MPr.lv at c1
 have HP:=hJ hp
 obtain ⟨q,hq⟩:∃q,q=a / D.z:=⟨_,rfl⟩
 obtain ⟨o,ho⟩:∃o,o=a%D.z:=⟨_,rfl⟩
 have hol:o<D.z:=by rw [ho];exact Nat.mod_lt _ (by omega)
 have l1:q≤a:=by rw [hq];exact Nat.div_le_self _ _
 have e1:((a:Int)).tdiv (D.z:Int)=(q:Int):=by rw [tdiv_nat,hq]
 have e2:((a:Int)).tmod (D.z:Int)=(o:Int):=by rw [tmod_nat,ho]
 have e1':((a:Int)) / (D.z:Int)=(q:Int):=by rw [hq];simp
 have e2':((a:Int))%(D.z:Int)=(o:Int):=by rw [ho];simp
 have i3:(D.z:Int)≠0:=by omega
 have i4:¬D.z=0:=by omega
 have w1:IntKind.i64.wrap (q:Int)=(q:Int):=IntWalk.i64_in _ (by omega)
 have w2:IntKind.i64.wrap (o:Int)=(o:Int):=IntWalk.i64_in _ (by omega)
 have HQ:=hJ (And.intro hq ho)
 have HF:=hJ (maFind_any hp (by omega) q)
 have hmk:=fun W=>run_make_bytes D.z (by omega) W
 have HXW:=hJ (And.intro lX c4)
 have HXO:=hJ hsep
 clear h hp hq ho hsep
 go_enter Tryz.func115,Tryz.ntmps115
 go_wp2_with fail
 refine HF.out.mono ?_
 rintro e w3 ⟨i,hfp,⟨n1,rfl⟩,hcs⟩
 have HFP:Hid (FndP p.L (a / D.z) i):=hJ (by rw [←HQ.out.1];exact hfp)
 have hfle:=hfp.le
 have HBV:Hid (Below w.heap.size w (w.drewN n1)):=hJ (below_drewN jB n1)
 rcases hcs with ⟨x,hx,hxn,rfl⟩|⟨hno,rfl⟩
 · have HMI:Hid (MidS w (w.drewN n1) D.z p a i p x):=hJ ⟨rfl,rfl,HP.out.up HBV.out,Off.of_below HBV.out,fun _=>.inl,hx,fun v=>setB_pl hx HFP.out (by rw [hxn,HQ.out.1]) v,by omega⟩
   clear hfp hx hxn HF hmk
   go_upto_region 5 with (fail)
   refine wp_forget (fun W=>∃p' x,MidS w W D.z p a i p' x) ⟨p,x,HMI.out⟩ ?_
   clear HMI c1 fz1
   rintro W ⟨p',x,hmid⟩
   have HMID:=hJ hmid
   have hm2:=jG hmid.get
   have hil:=(jS.1 hmid.get).1
   obtain ⟨g,og,hA,hg,hc⟩:=hmid.at_.pg.at_ (by omega)
   have x1:=hc i x hmid.get 1 _ rfl
   change W.cell? ⟨g,og+i*2+1,none⟩=some (.slice (some ⟨x.g,0,none⟩) x.b.length x.c) at x1
   rw [hmid.at_.len hm2] at x1
   have y0:=(hmid.at_.bys x hm2).cellB (j:=o) (by rw [hmid.at_.len hm2];exact hol)
   have fy:=(hmid.at_.bys x hm2).fzB o
   have lxg:=lt_of_cell y0
   have r1:=hmid.at_.c1
   rw [hmid.X] at r1
   unfold MPr.lv at r1
   rw [hA] at r1
   have lP2:=lt_of_cell r1
   have r4:=(hmid.off.cell (p:=⟨D.X,4,none⟩) HXW.out.1 (fun e=>HXO.out _ e rfl)).trans HXW.out.2
   have lX2:=lt_of_cell r4
   have hlI:(i:Int)<(p'.L.length:Int):=by omega
   have hoI:(o:Int)<(D.z:Int):=by omega
   have ho0:(0:Int)≤(o:Int):=by omega
   have hi0:(0:Int)≤(i:Int):=by omega
   clear hmid hm2 hil hA hc
   go_upto_region 5 with (fail)
   go_still_tail 17,(by kernel_rfl)
   go_wp2
   first
    |go_end0
    |refine bodyPost_ret (results_none rfl _ _ _) rfl ?_
   have hfin:=HMID.out.fin v
   rw [←HQ.out.2] at hfin
   obtain ⟨h0,p2,h1,h2,h3,h4,h5,h6⟩:=hfin
   exact ⟨rfl,p2,h1,h2,h3.up jB.drew,h4.drew,h5,h6⟩
 · have HNO:=hJ hno
   clear hfp hno HF e1 e1' w1
   go_upto_region 3 with (fail)
   refine wp_forget (fun V=>Below w.heap.size w V) HBV.out ?_
   clear HBV
   rintro V hbv
   have HBV:=hJ hbv
   have HPV:=hJ (HP.out.up hbv)
   have c1w:=c1
   have c1:=(hbv.cell (p:=⟨p.X,1,none⟩) lP).trans c1w
   have fz1w:=fz1
   have fz1:=(hbv.frozen (p:=⟨p.X,1,none⟩) lP).trans fz1w
   have c4w:=c4
   have c4:=(hbv.cell (p:=⟨D.X,4,none⟩) lX).trans c4w
   have lPw:=lP
   have lP:=Nat.lt_of_lt_of_le lPw hbv.size
   have lXw:=lX
   have lX:=Nat.lt_of_lt_of_le lXw hbv.size
   clear c1w fz1w c4w lPw lXw hbv
   have lP1:p.X<V.heap.size+1:=by omega
   have lP2:p.X<V.heap.size+1+1:=by omega
   have lX1:D.X<V.heap.size+1:=by omega
   have lX2:D.X<V.heap.size+1+1:=by omega
   have hlrow:=HPV.out.lr
   unfold MPr.lv at hlrow
   rcases hlrow.cases with ⟨hLA,hL0,hc0,hLn⟩|⟨gL,hLA⟩
   · obtain rfl:i=0:=by omega
     rw [hLA,hL0,hc0] at c1
     simp only [Int.natCast_zero]
     clear hlrow
     go_cut [11] from 27 to 45 (fun s11 W=>∃(A':Option Addr) (c' g:Nat),s11=.slice A' 1 c'∧FrE pgE V W (.slice A' 1 c') ([⟨q,g,D.z,zeros D.z⟩])∧OwB V.heap.size W (.slice (some ⟨g,0,none⟩) D.z D.z) (zeros D.z))
     case first=>
      have HA1:=hJ (FrE.lit pgE V).drew
      have HA2:=hJ ((FrE.lit pgE V).alloc (.cells (madeCells #[.int .u8 0] D.z) 5)).drew
      have HA3:=hJ (FrE.lit2 pgE V (.cells (madeCells #[.int .u8 0] D.z) 5)).drew
      have HA4:=hJ (((FrE.lit pgE V).alloc (.cells (madeCells #[.int .u8 0] D.z) 5)).alloc (.cells #[.int .i64 (q:Nat),.slice (some ⟨V.heap.size+1,0,none⟩) D.z D.z] 154)).drew
      have HA5:=hJ ((FrE.lit2 pgE V (.cells (madeCells #[.int .u8 0] D.z) 5)).alloc (.cells #[.int .i64 (q:Nat),.slice (some ⟨V.heap.size,0,none⟩) D.z D.z] 154)).drew
      have HA6:Hid (FrE pgE V (((V.alloc (.cells (madeCells #[.int .u8 0] D.z) 5)).alloc (.cells #[.int .i64 (q:Nat),.slice (some ⟨V.heap.size,0,none⟩) D.z D.z] 154)).alloc (.cells #[] 154)).drew (.slice (some ⟨V.heap.size+2,0,none⟩) 0 0) []):=hJ (by
       have h:=FrE.lit2 pgE (V.alloc (.cells (madeCells #[.int .u8 0] D.z) 5)) (.cells #[.int .i64 (q:Nat),.slice (some ⟨V.heap.size,0,none⟩) D.z D.z] 154)
       rw [show (V.alloc (.cells (madeCells #[.int .u8 0] D.z) 5)).heap.size=V.heap.size+1 by simp] at h
       exact (FrE.drew ⟨h.1.mono (by simp),(jB.alloc jN _).trans (h.2.mono (by simp))⟩))
      have hM0:OwB V.heap.size (V.alloc (.cells (madeCells #[.int .u8 0] D.z) 5)) (.slice (some ⟨V.heap.size,0,none⟩) D.z D.z) (zeros D.z):=pgMade V D.z (by omega)
      have hM1:OwB V.heap.size ((V.alloc (.cells #[] 154)).alloc (.cells (madeCells #[.int .u8 0] D.z) 5)) (.slice (some ⟨V.heap.size+1,0,none⟩) D.z D.z) (zeros D.z):=by
       have h:=pgMade (V.alloc (.cells #[] 154)) D.z (by omega)
       rw [show (V.alloc (.cells #[] 154)).heap.size=V.heap.size+1 by simp] at h
       exact h.mono (by omega)
      have HM2:=hJ hM1.up2
      have HM3:=hJ (hM0.up1 (.cells #[] 154)).up2
      have HM4:=hJ (hM1.up1 (.cells #[.int .i64 (q:Nat),.slice (some ⟨V.heap.size+1,0,none⟩) D.z D.z] 154)).up2
      have HM5:=hJ ((hM0.up1 (.cells #[] 154)).up1 (.cells #[.int .i64 (q:Nat),.slice (some ⟨V.heap.size,0,none⟩) D.z D.z] 154)).up2
      have HM6:=hJ ((hM0.up1 (.cells #[.int .i64 (q:Nat),.slice (some ⟨V.heap.size,0,none⟩) D.z D.z] 154)).up1 (.cells #[] 154)).up2
      have HY4:Hid (EAt pgE (((V.alloc (.cells #[] 154)).alloc (.cells (madeCells #[.int .u8 0] D.z) 5)).alloc (.cells #[.int .i64 (q:Nat),.slice (some ⟨V.heap.size+1,0,none⟩) D.z D.z] 154)).drew (some ⟨V.heap.size+2,0,none⟩) [⟨q,V.heap.size+1,D.z,zeros D.z⟩]):=hJ (by
       have h:=pgNew ((V.alloc (.cells #[] 154)).alloc (.cells (madeCells #[.int .u8 0] D.z) 5)) q (V.heap.size+1) D.z 154
       rw [show ((V.alloc (.cells #[] 154)).alloc (.cells (madeCells #[.int .u8 0] D.z) 5)).heap.size=V.heap.size+2 by simp] at h
       exact h.drew)
      have HY5:Hid (EAt pgE (((V.alloc (.cells (madeCells #[.int .u8 0] D.z) 5)).alloc (.cells #[] 154)).alloc (.cells #[.int .i64 (q:Nat),.slice (some ⟨V.heap.size,0,none⟩) D.z D.z] 154)).drew (some ⟨V.heap.size+2,0,none⟩) [⟨q,V.heap.size,D.z,zeros D.z⟩]):=hJ (by
       have h:=pgNew ((V.alloc (.cells (madeCells #[.int .u8 0] D.z) 5)).alloc (.cells #[] 154)) q V.heap.size D.z 154
       rw [show ((V.alloc (.cells (madeCells #[.int .u8 0] D.z) 5)).alloc (.cells #[] 154)).heap.size=V.heap.size+2 by simp] at h
       exact h.drew)
      have HY6:Hid (EAt pgE (((V.alloc (.cells (madeCells #[.int .u8 0] D.z) 5)).alloc (.cells #[.int .i64 (q:Nat),.slice (some ⟨V.heap.size,0,none⟩) D.z D.z] 154)).alloc (.cells #[] 154)).drew (some ⟨V.heap.size+1,0,none⟩) [⟨q,V.heap.size,D.z,zeros D.z⟩]):=hJ (by
       have h:=pgNew (V.alloc (.cells (madeCells #[.int .u8 0] D.z) 5)) q V.heap.size D.z 154
       rw [show (V.alloc (.cells (madeCells #[.int .u8 0] D.z) 5)).heap.size=V.heap.size+1 by simp] at h
       exact (h.alloc (.cells #[] 154)).drew)
      clear hM0 hM1
      go_region_law (first
       |(refine step_appFrN pgE (by rfl) (.tmp 27) (.tmp 33) (by rfl) (.slice (some ⟨_,0,none⟩) 0 0) [] (by rfl) (by first|exact HA1.out|exact HA2.out|exact HA3.out|exact HA4.out|exact HA5.out|exact HA6.out) (by rfl) ?_)
       |(refine step_appFr pgE (by rfl) (.tmp 34) (.tmp 43) (by rfl) (.slice (some ⟨_,0,none⟩) 0 0) [] (by rfl) (by first|exact HA2.out|exact HA3.out|exact HA4.out|exact HA5.out|exact HA6.out|exact HA2.out.alloc _|exact HA3.out.alloc _|exact (HA1.out.alloc _).alloc _) [⟨q,_,D.z,zeros D.z⟩] _ 1 1 (by rfl) rfl (by first|exact HY4.out|exact HY5.out|exact HY6.out|exact pgNew2 V.drew _ q _ D.z _|exact HYN.out) (by simp) 1 (by rfl) ?_;intro A8 c8 w8 h8 o8;have H8:=hJ h8;have HM8:=hJ (mOff (by first|exact HM4.out|exact HM5.out|exact HM6.out|exact HM2.out.up1 _|exact HM3.out.up1 _|exact (OwB.up1 (pgMade _ D.z (by omega)) _).mono (by have:=HA1.out.2.size;omega)) (by first|exact HA4.out.1|exact HA5.out.1|exact HA6.out.1|exact (HA2.out.alloc _).1|exact (HA3.out.alloc _).1|exact ((HA1.out.alloc _).alloc _).1) (by decide) o8);clear h8 o8))
      all_goals
       go_wp2_with fail
       go_meet
       exact ⟨_,_,_,rfl,H8.out,HM8.out⟩
     case rest=>
      obtain ⟨A9,c9,g9,rfl,hf9,hm9⟩:=hcut
      have HF9:=hJ hf9
      have HM9:=hJ hm9
      have hb9:=hf9.2
      have d1:=(hb9.cell (p:=⟨p.X,1,none⟩) lP).trans c1
      have f1:=(hb9.frozen (p:=⟨p.X,1,none⟩) lP).trans fz1
      have lP9:=Nat.lt_of_lt_of_le lP hb9.size
      have lX9:=Nat.lt_of_lt_of_le lX hb9.size
      have hr10:=hf9.1.appN 155
      have hf10:FrE pgE V wc (.slice A9 1 c9) (p.L.take 0 ++ ([⟨a / D.z,g9,D.z,zeros D.z⟩] ++ p.L.drop 0)):=by
       rw [hLn,←HQ.out.1]
       exact hf9
      obtain ⟨A10,c10,w10,hr10,hf10,ho10⟩:∃(A10:Option Addr) (c10:Nat) (w10:World),(Builtin.append_ #[155,155] 155 #[.slice A9 1 c9,.slice none 0 0]).run Tryz.prog wc=.ok (.slice A10 1 c10) w10∧FrE pgE V w10 (.slice A10 1 c10) (p.L.take 0 ++ ([⟨a / D.z,g9,D.z,zeros D.z⟩] ++ p.L.drop 0))∧Off (fun k=>(Value.slice A9 1 c9).ownBlock=some k) wc w10:=⟨A9,c9,wc,hr10,hf10,Off.refl _ _⟩
      have HROW:=hJ (And.intro (OwE.mono hf10.1 (Nat.zero_le _)) (own_row_ge hf10))
      have HB10:=hJ hf10.2
      have HMM:=hJ (mOff HM9.out HF9.out.1 (by decide) ho10)
      have e1:=(hf10.2.cell (p:=⟨p.X,1,none⟩) lP).trans c1
      have f10:=(hf10.2.frozen (p:=⟨p.X,1,none⟩) lP).trans fz1
      have lP10:=Nat.lt_of_lt_of_le lP hf10.2.size
      clear hf9 hm9 hf10 ho10 hb9
      go_upto_region 5 with (at_builtin;go_must (refine wpList_append_run rfl (.tmp 46) (.tmp 52) 155 rfl _ _ rfl rfl hr10 ?_))
      refine wp_forget (fun W=>∃p' x,MidS w W D.z p a 0 p' x) ?_ ?_
      · have hput:=(HP.out.up HBV.out).put HFP.out (fun y hy=>HQ.out.1 ▸ HNO.out y hy) (g:=g9) (by omega) HROW.out.1 ((HMM.out).mono (Nat.zero_le _)) HB10.out HROW.out.2 (HM9.out.lt g9 rfl).1
        obtain ⟨h1,h2,h3⟩:=hput
        obtain ⟨h4,h5⟩:=put_fnd HFP.out A10 c10 g9
        refine ⟨p.put 0 A10 c10 ⟨a / D.z,g9,D.z,zeros D.z⟩,⟨a / D.z,g9,D.z,zeros D.z⟩,⟨rfl,rfl,h1,?_,?_,h4,fun v=>put_set_pl HFP.out (fun y hy=>HQ.out.1 ▸ HNO.out y hy) A10 c10 g9 v,?_⟩⟩
        · exact (Off.of_below HBV.out).trans h2
        · intro q hq
          rcases h3 q hq with e|e
          · exact .inl e
          · exact .inr (Nat.le_trans HBV.out.size e)
        · have:=hfle
          show (p.L.take 0 ++ ([_] ++ p.L.drop 0)).length≤200000
          simp only [List.length_append,List.length_take,List.length_drop,List.length_singleton]
          omega
      clear e1 f10 lP10 hr10 HROW HB10 HMM
      rintro W ⟨p',x,hmid⟩
      have HMID:=hJ hmid
      have hm2:=jG hmid.get
      have hil:=(jS.1 hmid.get).1
      obtain ⟨g,og,hA,hg,hc⟩:=hmid.at_.pg.at_ (by omega)
      have x1:=hc 0 x hmid.get 1 _ rfl
      change W.cell? ⟨g,og+0*2+1,none⟩=some (.slice (some ⟨x.g,0,none⟩) x.b.length x.c) at x1
      rw [Nat.zero_mul,Nat.add_zero] at x1
      rw [hmid.at_.len hm2] at x1
      have y0:=(hmid.at_.bys x hm2).cellB (j:=o) (by rw [hmid.at_.len hm2];exact hol)
      have fy:=(hmid.at_.bys x hm2).fzB o
      have lxg:=lt_of_cell y0
      have r1:=hmid.at_.c1
      rw [hmid.X] at r1
      unfold MPr.lv at r1
      rw [hA] at r1
      have lP2:=lt_of_cell r1
      have r4:=(hmid.off.cell (p:=⟨D.X,4,none⟩) HXW.out.1 (fun e=>HXO.out _ e rfl)).trans HXW.out.2
      have lX2:=lt_of_cell r4
      have hlI:0<p'.L.length:=by omega
      have hoI:(o:Int)<(D.z:Int):=by omega
      have ho0:(0:Int)≤(o:Int):=by omega
      clear hmid hm2 hil hA hc
      go_upto_region 5 with (fail)
      go_still_tail 17,(by kernel_rfl)
      go_wp2
      first
       |go_end0
       |refine bodyPost_ret (results_none rfl _ _ _) rfl ?_
      have hfin:=HMID.out.fin v
      rw [←HQ.out.2] at hfin
      obtain ⟨h0,p2,h1,h2,h3,h4,h5,h6⟩:=hfin
      exact ⟨rfl,p2,h1,h2,h3.up jB.drew,h4.drew,h5,h6⟩
   · have HPG:Hid (EAt pgE V (some ⟨gL,0,none⟩) p.L):=hJ (by rw [←hLA];exact HPV.out.pg)
     have hcap:p.L.length≤p.Lc:=by obtain ⟨A',c',e,h⟩:=hlrow.form;cases e;omega
     have hic:i≤p.Lc:=by omega
     have HLT:Hid ((p.L.take i).length=i):=hJ (by rw [List.length_take];omega)
     have HTK:Hid (∀W,Below V.heap.size V W→EAt pgE W (some ⟨gL,0,none⟩) (p.L.take i)):=hJ fun W hW=>(HPG.out.take i).up hW
     rw [hLA] at c1
     clear hlrow hLA
     go_cut [11] from 27 to 45 (fun s11 W=>∃(A':Option Addr) (c' g:Nat),s11=.slice A' (i+1) c'∧FrE pgE V W (.slice A' (i+1) c') (p.L.take i ++ [⟨q,g,D.z,zeros D.z⟩])∧OwB V.heap.size W (.slice (some ⟨g,0,none⟩) D.z D.z) (zeros D.z))
     case first=>
      have HA1:=hJ (FrE.lit pgE V).drew
      have HA2:=hJ ((FrE.lit pgE V).alloc (.cells (madeCells #[.int .u8 0] D.z) 5)).drew
      have HA3:=hJ (FrE.lit2 pgE V (.cells (madeCells #[.int .u8 0] D.z) 5)).drew
      have HA4:=hJ (((FrE.lit pgE V).alloc (.cells (madeCells #[.int .u8 0] D.z) 5)).alloc (.cells #[.int .i64 (q:Nat),.slice (some ⟨V.heap.size+1,0,none⟩) D.z D.z] 154)).drew
      have HA5:=hJ ((FrE.lit2 pgE V (.cells (madeCells #[.int .u8 0] D.z) 5)).alloc (.cells #[.int .i64 (q:Nat),.slice (some ⟨V.heap.size,0,none⟩) D.z D.z] 154)).drew
      have HA6:Hid (FrE pgE V (((V.alloc (.cells (madeCells #[.int .u8 0] D.z) 5)).alloc (.cells #[.int .i64 (q:Nat),.slice (some ⟨V.heap.size,0,none⟩) D.z D.z] 154)).alloc (.cells #[] 154)).drew (.slice (some ⟨V.heap.size+2,0,none⟩) 0 0) []):=hJ (by
       have h:=FrE.lit2 pgE (V.alloc (.cells (madeCells #[.int .u8 0] D.z) 5)) (.cells #[.int .i64 (q:Nat),.slice (some ⟨V.heap.size,0,none⟩) D.z D.z] 154)
       rw [show (V.alloc (.cells (madeCells #[.int .u8 0] D.z) 5)).heap.size=V.heap.size+1 by simp] at h
       exact (FrE.drew ⟨h.1.mono (by simp),(jB.alloc jN _).trans (h.2.mono (by simp))⟩))
      have hM0:OwB V.heap.size (V.alloc (.cells (madeCells #[.int .u8 0] D.z) 5)) (.slice (some ⟨V.heap.size,0,none⟩) D.z D.z) (zeros D.z):=pgMade V D.z (by omega)
      have hM1:OwB V.heap.size ((V.alloc (.cells #[] 154)).alloc (.cells (madeCells #[.int .u8 0] D.z) 5)) (.slice (some ⟨V.heap.size+1,0,none⟩) D.z D.z) (zeros D.z):=by
       have h:=pgMade (V.alloc (.cells #[] 154)) D.z (by omega)
       rw [show (V.alloc (.cells #[] 154)).heap.size=V.heap.size+1 by simp] at h
       exact h.mono (by omega)
      have HM2:=hJ hM1.up2
      have HM3:=hJ (hM0.up1 (.cells #[] 154)).up2
      have HM4:=hJ (hM1.up1 (.cells #[.int .i64 (q:Nat),.slice (some ⟨V.heap.size+1,0,none⟩) D.z D.z] 154)).up2
      have HM5:=hJ ((hM0.up1 (.cells #[] 154)).up1 (.cells #[.int .i64 (q:Nat),.slice (some ⟨V.heap.size,0,none⟩) D.z D.z] 154)).up2
      have HM6:=hJ ((hM0.up1 (.cells #[.int .i64 (q:Nat),.slice (some ⟨V.heap.size,0,none⟩) D.z D.z] 154)).up1 (.cells #[] 154)).up2
      have HY4:Hid (EAt pgE (((V.alloc (.cells #[] 154)).alloc (.cells (madeCells #[.int .u8 0] D.z) 5)).alloc (.cells #[.int .i64 (q:Nat),.slice (some ⟨V.heap.size+1,0,none⟩) D.z D.z] 154)).drew (some ⟨V.heap.size+2,0,none⟩) [⟨q,V.heap.size+1,D.z,zeros D.z⟩]):=hJ (by
       have h:=pgNew ((V.alloc (.cells #[] 154)).alloc (.cells (madeCells #[.int .u8 0] D.z) 5)) q (V.heap.size+1) D.z 154
       rw [show ((V.alloc (.cells #[] 154)).alloc (.cells (madeCells #[.int .u8 0] D.z) 5)).heap.size=V.heap.size+2 by simp] at h
       exact h.drew)
      have HY5:Hid (EAt pgE (((V.alloc (.cells (madeCells #[.int .u8 0] D.z) 5)).alloc (.cells #[] 154)).alloc (.cells #[.int .i64 (q:Nat),.slice (some ⟨V.heap.size,0,none⟩) D.z D.z] 154)).drew (some ⟨V.heap.size+2,0,none⟩) [⟨q,V.heap.size,D.z,zeros D.z⟩]):=hJ (by
       have h:=pgNew ((V.alloc (.cells (madeCells #[.int .u8 0] D.z) 5)).alloc (.cells #[] 154)) q V.heap.size D.z 154
       rw [show ((V.alloc (.cells (madeCells #[.int .u8 0] D.z) 5)).alloc (.cells #[] 154)).heap.size=V.heap.size+2 by simp] at h
       exact h.drew)
      have HY6:Hid (EAt pgE (((V.alloc (.cells (madeCells #[.int .u8 0] D.z) 5)).alloc (.cells #[.int .i64 (q:Nat),.slice (some ⟨V.heap.size,0,none⟩) D.z D.z] 154)).alloc (.cells #[] 154)).drew (some ⟨V.heap.size+1,0,none⟩) [⟨q,V.heap.size,D.z,zeros D.z⟩]):=hJ (by
       have h:=pgNew (V.alloc (.cells (madeCells #[.int .u8 0] D.z) 5)) q V.heap.size D.z 154
       rw [show (V.alloc (.cells (madeCells #[.int .u8 0] D.z) 5)).heap.size=V.heap.size+1 by simp] at h
       exact (h.alloc (.cells #[] 154)).drew)
      clear hM0 hM1
      go_region_law (first
       |(refine step_appFr pgE (by rfl) (.tmp 27) (.tmp 33) (by rfl) (.slice (some ⟨_,0,none⟩) 0 0) [] (by rfl) (by first|exact HA1.out|exact HA2.out|exact HA3.out|exact HA4.out|exact HA5.out|exact HA6.out) (p.L.take i) ⟨gL,0,none⟩ i p.Lc (by rfl) HLT.out.symm (HTK.out _ (by first|exact HA1.out.2|exact HA2.out.2|exact HA3.out.2|exact HA4.out.2|exact HA5.out.2|exact HA6.out.2)) (by rw [HLT.out];simp;omega) i (by rw [List.nil_append];exact HLT.out) ?_;intro A7 c7 w7 h7 o7;have y7:=(h7.2.cell (p:=⟨p.X,1,none⟩) lP).trans c1;have z7:=(h7.2.cell (p:=⟨D.X,4,none⟩) lX).trans c4;have lP7:=Nat.lt_of_lt_of_le lP h7.2.size;have lX7:=Nat.lt_of_lt_of_le lX h7.2.size;have H7:=hJ h7;(first|(have HM7:=hJ (mOff HM2.out HA2.out.1 (by decide) o7))|(have HM7:=hJ (mOff HM3.out HA3.out.1 (by decide) o7))|(have HM7:=hJ (mOff HM4.out HA4.out.1 (by decide) o7);have HY7:=hJ (HY4.out.off o7 (eO_ne (by omega))))|(have HM7:=hJ (mOff HM5.out HA5.out.1 (by decide) o7);have HY7:=hJ (HY5.out.off o7 (eO_ne (by omega))))|(have HM7:=hJ (mOff HM6.out HA6.out.1 (by decide) o7);have HY7:=hJ (HY6.out.off o7 (eO_ne (by omega))))|skip);clear h7 o7)
       |(refine step_appFr pgE (by rfl) (.tmp 34) (.tmp 43) (by rfl) _ (p.L.take i) (by rfl) (by first|exact H7.out|exact H7.out.alloc _|exact (H7.out.alloc _).alloc _) [⟨q,_,D.z,zeros D.z⟩] _ 1 1 (by rfl) rfl (by first|exact HY7.out|exact pgNew _ q _ D.z _|exact pgNew2 _ _ q _ D.z _) (by rw [HLT.out];simp;omega) (i+1) (by rw [List.length_append,HLT.out];rfl) ?_;intro A8 c8 w8 h8 o8;have H8:=hJ h8;have HM8:=hJ (mOff (by first|exact HM7.out|exact HM7.out.up1 _|exact (OwB.up1 (pgMade _ D.z (by omega)) _).mono (by have:=H7.out.2.size;omega)) (by first|exact H7.out.1|exact (H7.out.alloc _).1|exact ((H7.out.alloc _).alloc _).1) (by decide) o8);clear h8 o8))
      all_goals
       go_wp2_with fail
       go_meet
       exact ⟨_,_,_,rfl,H8.out,HM8.out⟩
     case rest=>
      obtain ⟨A9,c9,g9,rfl,hf9,hm9⟩:=hcut
      have HF9:=hJ hf9
      have HM9:=hJ hm9
      have hb9:=hf9.2
      have d1:=(hb9.cell (p:=⟨p.X,1,none⟩) lP).trans c1
      have f1:=(hb9.frozen (p:=⟨p.X,1,none⟩) lP).trans fz1
      have lP9:=Nat.lt_of_lt_of_le lP hb9.size
      have lX9:=Nat.lt_of_lt_of_le lX hb9.size
      by_cases hck:p.Lc=i
      · have hdl:p.L.drop i=[]:=List.drop_eq_nil_of_le (by omega)
        obtain ⟨A10,c10,w10,hr10,hf10,ho10⟩:=hf9.app (M:=[]) (a:=⟨gL,0,none⟩) (c:=0) (EAt.nil _ _ _) (by rw [List.length_append,HLT.out];simp;omega) 155
        have hl10:(p.L.take i ++ [(⟨q,g9,D.z,zeros D.z⟩:MPg)] ++ []).length=p.L.length+1:=by simp;omega
        rw [hl10] at hr10 hf10
        rw [show p.L.take i ++ [(⟨q,g9,D.z,zeros D.z⟩:MPg)] ++ []=p.L.take i ++ ([⟨a / D.z,g9,D.z,zeros D.z⟩] ++ p.L.drop i) by rw [hdl,HQ.out.1,List.append_assoc]] at hf10
        have holn:p.L.length-i=0:=by omega
        have hcl:p.Lc-i=0:=by omega
        have hkk:i≤p.L.length:=by omega
        have hkc:i≤p.Lc:=by omega
        simp only [List.length_nil] at hr10
        have HROW:=hJ (And.intro (OwE.mono hf10.1 (Nat.zero_le _)) (own_row_ge hf10))
        have HB10:=hJ hf10.2
        have HMM:=hJ (mOff HM9.out HF9.out.1 (by decide) ho10)
        have e1:=(hf10.2.cell (p:=⟨p.X,1,none⟩) lP).trans c1
        have f10:=(hf10.2.frozen (p:=⟨p.X,1,none⟩) lP).trans fz1
        have lP10:=Nat.lt_of_lt_of_le lP hf10.2.size
        clear hf9 hm9 hf10 ho10 hb9
        go_upto_region 5 with (at_builtin;go_must (refine wpList_append_run rfl (.tmp 46) (.tmp 52) 155 rfl _ _ rfl (by first|rfl|(go_simp;done)|(simp [*];done)) hr10 ?_))
        refine wp_forget (fun W=>∃p' x,MidS w W D.z p a i p' x) ?_ ?_
        · have hput:=(HP.out.up HBV.out).put HFP.out (fun y hy=>HQ.out.1 ▸ HNO.out y hy) (g:=g9) rfl HROW.out.1 ((HMM.out).mono (Nat.zero_le _)) HB10.out HROW.out.2 (HM9.out.lt g9 rfl).1
          obtain ⟨h1,h2,h3⟩:=hput
          obtain ⟨h4,h5⟩:=put_fnd HFP.out A10 c10 g9
          refine ⟨p.put i A10 c10 ⟨a / D.z,g9,D.z,zeros D.z⟩,⟨a / D.z,g9,D.z,zeros D.z⟩,⟨rfl,rfl,h1,?_,?_,h4,fun v=>put_set_pl HFP.out (fun y hy=>HQ.out.1 ▸ HNO.out y hy) A10 c10 g9 v,?_⟩⟩
          · exact (Off.of_below HBV.out).trans h2
          · intro q hq
            rcases h3 q hq with e|e
            · exact .inl e
            · exact .inr (Nat.le_trans HBV.out.size e)
          · have:=hfle
            show (p.L.take i ++ ([_] ++ p.L.drop i)).length≤200000
            simp only [List.length_append,List.length_take,List.length_drop,List.length_singleton]
            omega
        clear e1 f10 lP10 hr10 HROW HB10 HMM
        rintro W ⟨p',x,hmid⟩
        have HMID:=hJ hmid
        have hm2:=jG hmid.get
        have hil:=(jS.1 hmid.get).1
        obtain ⟨g,og,hA,hg,hc⟩:=hmid.at_.pg.at_ (by omega)
        have x1:=hc i x hmid.get 1 _ rfl
        change W.cell? ⟨g,og+i*2+1,none⟩=some (.slice (some ⟨x.g,0,none⟩) x.b.length x.c) at x1
        rw [hmid.at_.len hm2] at x1
        have y0:=(hmid.at_.bys x hm2).cellB (j:=o) (by rw [hmid.at_.len hm2];exact hol)
        have fy:=(hmid.at_.bys x hm2).fzB o
        have lxg:=lt_of_cell y0
        have r1:=hmid.at_.c1
        rw [hmid.X] at r1
        unfold MPr.lv at r1
        rw [hA] at r1
        have lP2:=lt_of_cell r1
        have r4:=(hmid.off.cell (p:=⟨D.X,4,none⟩) HXW.out.1 (fun e=>HXO.out _ e rfl)).trans HXW.out.2
        have lX2:=lt_of_cell r4
        have hlI:(i:Int)<(p'.L.length:Int):=by omega
        have hoI:(o:Int)<(D.z:Int):=by omega
        have ho0:(0:Int)≤(o:Int):=by omega
        have hi0:(0:Int)≤(i:Int):=by omega
        clear hmid hm2 hil hA hc
        go_upto_region 5 with (fail)
        go_still_tail 17,(by kernel_rfl)
        go_wp2
        first
         |go_end0
         |refine bodyPost_ret (results_none rfl _ _ _) rfl ?_
        have hfin:=HMID.out.fin v
        rw [←HQ.out.2] at hfin
        obtain ⟨h0,p2,h1,h2,h3,h4,h5,h6⟩:=hfin
        exact ⟨rfl,p2,h1,h2,h3.up jB.drew,h4.drew,h5,h6⟩
      · have hdr:EAt pgE V (some ⟨gL,i*2,none⟩) (p.L.drop i):=by
         have:=HPG.out.drop (n:=i)
         rw [Nat.zero_add] at this
         exact this
        obtain ⟨A10,c10,w10,hr10,hf10,ho10⟩:=hf9.app (M:=p.L.drop i) (a:=⟨gL,i*2,none⟩) (c:=p.Lc-i) (hdr.up hf9.2) (by rw [List.length_append,HLT.out];simp;omega) 155
        have hl10:(p.L.take i ++ [(⟨q,g9,D.z,zeros D.z⟩:MPg)] ++ p.L.drop i).length=p.L.length+1:=by simp;omega
        rw [hl10] at hr10 hf10
        rw [show p.L.take i ++ [(⟨q,g9,D.z,zeros D.z⟩:MPg)] ++ p.L.drop i=p.L.take i ++ ([⟨a / D.z,g9,D.z,zeros D.z⟩] ++ p.L.drop i) by rw [HQ.out.1,List.append_assoc]] at hf10
        rw [List.length_drop] at hr10
        have hkk:i≤p.L.length:=by omega
        have hkc:i≤p.Lc:=by omega
        have HROW:=hJ (And.intro (OwE.mono hf10.1 (Nat.zero_le _)) (own_row_ge hf10))
        have HB10:=hJ hf10.2
        have HMM:=hJ (mOff HM9.out HF9.out.1 (by decide) ho10)
        have e1:=(hf10.2.cell (p:=⟨p.X,1,none⟩) lP).trans c1
        have f10:=(hf10.2.frozen (p:=⟨p.X,1,none⟩) lP).trans fz1
        have lP10:=Nat.lt_of_lt_of_le lP hf10.2.size
        clear hf9 hm9 hf10 ho10 hb9
        go_upto_region 5 with (at_builtin;go_must (refine wpList_append_run rfl (.tmp 46) (.tmp 52) 155 rfl _ _ rfl rfl hr10 ?_))
        refine wp_forget (fun W=>∃p' x,MidS w W D.z p a i p' x) ?_ ?_
        · have hput:=(HP.out.up HBV.out).put HFP.out (fun y hy=>HQ.out.1 ▸ HNO.out y hy) (g:=g9) rfl HROW.out.1 ((HMM.out).mono (Nat.zero_le _)) HB10.out HROW.out.2 (HM9.out.lt g9 rfl).1
          obtain ⟨h1,h2,h3⟩:=hput
          obtain ⟨h4,h5⟩:=put_fnd HFP.out A10 c10 g9
          refine ⟨p.put i A10 c10 ⟨a / D.z,g9,D.z,zeros D.z⟩,⟨a / D.z,g9,D.z,zeros D.z⟩,⟨rfl,rfl,h1,?_,?_,h4,fun v=>put_set_pl HFP.out (fun y hy=>HQ.out.1 ▸ HNO.out y hy) A10 c10 g9 v,?_⟩⟩
          · exact (Off.of_below HBV.out).trans h2
          · intro q hq
            rcases h3 q hq with e|e
            · exact .inl e
            · exact .inr (Nat.le_trans HBV.out.size e)
          · have:=hfle
            show (p.L.take i ++ ([_] ++ p.L.drop i)).length≤200000
            simp only [List.length_append,List.length_take,List.length_drop,List.length_singleton]
            omega
        clear e1 f10 lP10 hr10 HROW HB10 HMM
        rintro W ⟨p',x,hmid⟩
        have HMID:=hJ hmid
        have hm2:=jG hmid.get
        have hil:=(jS.1 hmid.get).1
        obtain ⟨g,og,hA,hg,hc⟩:=hmid.at_.pg.at_ (by omega)
        have x1:=hc i x hmid.get 1 _ rfl
        change W.cell? ⟨g,og+i*2+1,none⟩=some (.slice (some ⟨x.g,0,none⟩) x.b.length x.c) at x1
        rw [hmid.at_.len hm2] at x1
        have y0:=(hmid.at_.bys x hm2).cellB (j:=o) (by rw [hmid.at_.len hm2];exact hol)
        have fy:=(hmid.at_.bys x hm2).fzB o
        have lxg:=lt_of_cell y0
        have r1:=hmid.at_.c1
        rw [hmid.X] at r1
        unfold MPr.lv at r1
        rw [hA] at r1
        have lP2:=lt_of_cell r1
        have r4:=(hmid.off.cell (p:=⟨D.X,4,none⟩) HXW.out.1 (fun e=>HXO.out _ e rfl)).trans HXW.out.2
        have lX2:=lt_of_cell r4
        have hlI:(i:Int)<(p'.L.length:Int):=by omega
        have hoI:(o:Int)<(D.z:Int):=by omega
        have ho0:(0:Int)≤(o:Int):=by omega
        have hi0:(0:Int)≤(i:Int):=by omega
        clear hmid hm2 hil hA hc
        go_upto_region 5 with (fail)
        go_still_tail 17,(by kernel_rfl)
        go_wp2
        first
         |go_end0
         |refine bodyPost_ret (results_none rfl _ _ _) rfl ?_
        have hfin:=HMID.out.fin v
        rw [←HQ.out.2] at hfin
        obtain ⟨h0,p2,h1,h2,h3,h4,h5,h6⟩:=hfin
        exact ⟨rfl,p2,h1,h2,h3.up jB.drew,h4.drew,h5,h6⟩
end
end Go.Proofs.YtlhfjaagkgengaaGreat
