/- almanaclaw16: begun, walked. almanaclaw16: ids, walked. almanaclaw16: bytes: the pages hold what the document's machine holds. -/
import Derived.Test.YtlhfjaagkgengaaGreatPB47
import Derived.Deep.RegionHeldLaw
import Derived.StillTailTactics
namespace Go.Proofs.YtlhfjaagkgengaaGreat
open Go.RowKit Go.Maps
set_option linter.unusedVariables false
set_option linter.unusedSimpArgs false
theorem wb_new {S:Nat} {w0 w3:World} {d:PD} {t:PSt ShS} {C:Cu} {k:Nat} {l:List Spc} {D:MaD} {P:List (Option MPr)} {cf:Nat→Int} {n:Nat} (hl:LW S w0 w3 d t C k l) (hm:MaAt w3 D P) (hsep:∀q,maO D P q→¬swO d t l q) (hown:∀q,maO D P q→w0.heap.size≤q) (hcf:D.cf=cf) (hn:D.n=n) (hnb:1≤n∧n≤64) (T:TypeId):
 WB w0 ((w3.alloc (.cells (madeCells #[.pointer none] n) 30)).alloc (.cells #[.int .i64 (cf 0),.int .i64 (cf 1),.int .i64 (cf 2),.int .i64 (cf 3),.int .i64 (cf 4),.int .i64 (cf 5),.int .i64 (cf 6),.int .i64 (cf 7),.int .i64 (cf 8),.pointer (some ⟨d.Q,0,none⟩),.pointer (some ⟨D.X,0,none⟩),.slice (some ⟨w3.heap.size,0,none⟩) n n] T)) ⟨w3.heap.size+1,S,d,D,some ⟨w3.heap.size,0,none⟩,n⟩ t C k l P (List.replicate n none):=by
 have b1:Below w3.heap.size w3 (w3.alloc (.cells (madeCells #[.pointer none] n) 30)):=(Below.refl _ _).alloc (Nat.le_refl _) _
 have hmd:=OwE.made psE rfl (x:=none) rfl n (by omega) w3
 change OwE psE w3.heap.size (w3.alloc (.cells (madeCells #[.pointer none] n) 30)) _ _ at hmd
 have z1:(w3.alloc (.cells (madeCells #[.pointer none] n) 30)).heap.size=w3.heap.size+1:=by simp
 generalize (w3.alloc (.cells (madeCells #[.pointer none] n) 30))=w4 at *
 have hnw:=heap_alloc_new w4 (.cells #[.int .i64 (cf 0),.int .i64 (cf 1),.int .i64 (cf 2),.int .i64 (cf 3),.int .i64 (cf 4),.int .i64 (cf 5),.int .i64 (cf 6),.int .i64 (cf 7),.int .i64 (cf 8),.pointer (some ⟨d.Q,0,none⟩),.pointer (some ⟨D.X,0,none⟩),.slice (some ⟨w3.heap.size,0,none⟩) n n] T)
 have b2:Below w4.heap.size w4 (w4.alloc (.cells #[.int .i64 (cf 0),.int .i64 (cf 1),.int .i64 (cf 2),.int .i64 (cf 3),.int .i64 (cf 4),.int .i64 (cf 5),.int .i64 (cf 6),.int .i64 (cf 7),.int .i64 (cf 8),.pointer (some ⟨d.Q,0,none⟩),.pointer (some ⟨D.X,0,none⟩),.slice (some ⟨w3.heap.size,0,none⟩) n n] T)):=(Below.refl _ _).alloc (Nat.le_refl _) _
 rw [z1] at hnw
 generalize w4.alloc (.cells #[.int .i64 (cf 0),.int .i64 (cf 1),.int .i64 (cf 2),.int .i64 (cf 3),.int .i64 (cf 4),.int .i64 (cf 5),.int .i64 (cf 6),.int .i64 (cf 7),.int .i64 (cf 8),.pointer (some ⟨d.Q,0,none⟩),.pointer (some ⟨D.X,0,none⟩),.slice (some ⟨w3.heap.size,0,none⟩) n n] T)=w5 at *
 have hc:∀k v,(#[.int .i64 (cf 0),.int .i64 (cf 1),.int .i64 (cf 2),.int .i64 (cf 3),.int .i64 (cf 4),.int .i64 (cf 5),.int .i64 (cf 6),.int .i64 (cf 7),.int .i64 (cf 8),.pointer (some ⟨d.Q,0,none⟩),.pointer (some ⟨D.X,0,none⟩),.slice (some ⟨w3.heap.size,0,none⟩) n n]:Array Value)[k]? =some v→w5.cell? ⟨w3.heap.size+1,k,none⟩=some v:=fun k v hv=>by
  rw [cell_of_row _ _ _ _ _ _ hnw];exact hv
 have bb:Below w3.heap.size w3 w5:=b1.trans (b2.mono (by omega))
 have hz:=hl.bel.size
 have hro:∀q,(WD.mk (w3.heap.size+1) S d D (some ⟨w3.heap.size,0,none⟩) n).ro q→w3.heap.size≤q:=fun q hq=>by
  rcases hq with e|e
  · rw [e];simp only;omega
  · have e2:w3.heap.size=q:=by unfold WD.rv at e;simpa [Value.ownBlock] using e
    omega
 refine ⟨hl.up bb,hm.up bb,?_,by rw [List.length_replicate];exact hn.symm,fun i hi=>?_,hc 9 _ rfl,hc 10 _ rfl,?_,?_,fun q hq=>⟨hsep q hq,fun e=>by have:=hro q e;have:=hm.lt hq;omega⟩,fun q hq e=>by have:=hro q hq;have:=hl.sw.lt e;omega,fun q hq=>?_⟩
 · unfold WD.rv
   simp only
   rw [hn]
   exact (hmd.up b2).mono (Nat.zero_le _)
 · simp only
   rw [hcf]
   rcases (show i=0∨i=1∨i=2∨i=3∨i=4∨i=5∨i=6∨i=7∨i=8 by omega) with rfl|rfl|rfl|rfl|rfl|rfl|rfl|rfl|rfl<;>exact hc _ _ rfl
 · unfold WD.rv
   simp only
   rw [hn]
   exact hc 11 _ rfl
 · unfold WD.rv
   simp only
   intro e
   simp [Value.ownBlock] at e
 · rcases hq with e|e
   · exact hown q e
   · have:=hro q e;omega
theorem LW.rebase {S:Nat} {V w0 w:World} {d:PD} {t:PSt ShS} {C:Cu} {k:Nat} {l:List Spc} (h:LW S V w d t C k l) (hb:Below w0.heap.size w0 V):LW S w0 w d t C k l:=
 ⟨h.sw,hb.trans (h.bel.mono hb.size),fun q hq=>by have:=h.own q hq;have:=hb.size;omega,h.rm⟩
theorem doF_make {S:SpD} {n:Nat} (hn:1≤n):doF S (List.replicate n none) ⟨1,0,0,0,0,[]⟩=((List.replicate n none).set 0 (some ⟨[],[]⟩),⟨0,0,[],[]⟩):=by
 obtain ⟨m,rfl⟩:∃m,n=m+1:=⟨n-1,by omega⟩
 rw [List.replicate_succ]
 rfl
theorem lS_rep (n:Nat):lS (List.replicate n none)=[]:=by
 unfold lS
 induction n with
 |zero=>rfl
 |succ n ih=>rw [List.replicate_succ,List.filterMap_cons];exact ih
def BgPost (w:World) (cf:Nat→Int) (held:Int) (e:Ending) (w':World):Prop:=
 ∃o t C sp P,e=.returned (.pointer (some ⟨o.W,0,none⟩))∧WS w w' o t C 1990000 0 sp P∧(o.d.n:Int)=held∧(∃s,sp[0]? =some (some s))∧o.D.cf=cf
set_option maxRecDepth 100000 in
set_option maxHeartbeats 4000000 in
theorem begun16_any (w:World) {cf:Nat→Int} {held:Int} (hg:GoodC cf) (hh:1≤held∧held≤4096):
 Calls Tryz.prog 21 #[cfgV cf,.int .i64 held] w (BgPost w cf held):=by
 have HG:=hJ hg
 have HPO:=hJ (fun V:World=>pagerOf_any V cf held hg.1 hh)
 have HNM:=hJ (fun V:World=>nmNew_any V cf)
 have hbx:Below w.heap.size w (w.alloc (.cells #[.int .i64 (cf 0),.int .i64 (cf 1),.int .i64 (cf 2),.int .i64 (cf 3),.int .i64 (cf 4),.int .i64 (cf 5),.int .i64 (cf 6),.int .i64 (cf 7),.int .i64 (cf 8)] 23)):=(Below.refl _ _).alloc (Nat.le_refl _) _
 have HBX:=hJ hbx
 clear hg hh hbx
 unfold cfgV at HPO HNM ⊢
 go_enter Tryz.func21,Tryz.ntmps21
 go_wp2_with fail
 refine (HPO.out _).mono ?_
 intro e w1 hpo
 obtain ⟨S,d,t,rfl,hl,hz,hn⟩:=lw_po2 hpo
 obtain ⟨c0,c1,c2,c3,c4,c5,c6,c7,c8⟩:=cfg_cells hl.bel
 have HL1:=hJ hl
 have HZN:=hJ (And.intro hz hn)
 clear hl hz hn hpo
 go_wp2_with fail
 refine (HNM.out _).mono ?_
 intro e w2 hnm
 obtain ⟨hb2,hnm⟩:=hnm
 rcases hnm with ⟨hbad,_⟩|⟨_,X,S2,B2,Q2,rfl,x1,x2,x3,x4,x5,x6,x7,x8,x9,x10⟩
 · exact absurd HG.out hbad
 obtain ⟨hma,hnew⟩:=nm_ma HG.out x1 x2 x3 x4 x5 x6 x7 x8 x9 x10
 generalize hD0:MaD.mk X S2 (some ⟨B2,0,none⟩) (cf 6).toNat (some ⟨Q2,0,none⟩) (cf 6).toNat cf (cf 4).toNat (cf 6).toNat (cf 7).toNat (cf 8).toNat=D at hma hnew
 have HD0:=hJ hD0
 have HMA:=hJ hma
 have HNW:=hJ hnew
 have HL2:=hJ (HL1.out.up hb2)
 have HSEP:Hid (∀q,maO D (List.replicate (cf 6).toNat none) q→¬swO d t [] q):=hJ fun q hq e=>by
  have h1:=HNW.out q hq
  have h2:=HL1.out.sw.lt e
  omega
 clear x1 x2 x3 x4 x5 x6 x7 x8 x9 x10 hma hnew hD0 hb2 c0 c1 c2 c3 c4 c5 c6 c7 c8
 obtain ⟨c0,c1,c2,c3,c4,c5,c6,c7,c8⟩:=cfg_cells HL2.out.bel
 have HAD:=hJ (HL2.out.add (cf:=cf) (pg:=(cf 4).toNat) (rg:=(cf 7).toNat) (ps:=(cf 8).toNat) (by
  obtain ⟨h1,h2,h3,h4⟩:=HG.out
  exact ⟨by simp only;omega,by simp only;omega,by simp only;omega,by simp only;omega,by simp only;omega,by simp only;omega⟩) (by have:=HZN.out.1;have:=HG.out.1;omega) (by simp))
 unfold cfgV at HAD
 go_wp2_with fail
 refine HAD.out.mono ?_
 rintro e w3 ⟨X1,M1,rfl,hl,hn3⟩
 have HL3:=hJ hl
 have hma3:=HMA.out.off hn3.off HSEP.out
 have HMA3:=hJ hma3
 have HSEP3:Hid (∀q,maO D (List.replicate (cf 6).toNat none) q→¬swO d t [⟨⟨X1,M1,d.Q,cf,(cf 4).toNat,(cf 7).toNat,(cf 8).toNat⟩,none,0,[],fun _=>none,0⟩] q):=hJ fun q hq=>(hn3.keep (HMA.out.lt hq) (HSEP.out q hq)).2
 obtain ⟨n,hn⟩:∃n:Nat,cf 6=(n:Nat):=⟨(cf 6).toNat,by have:=HG.out.2.1;omega⟩
 have hnb:1≤n∧n≤64:=by have:=HG.out.2.1;omega
 have hmk:=run_make_el psE rfl rfl n (by omega)
 rw [←hn] at hmk
 simp only [psE] at hmk
 have HNN:=hJ hn
 clear hl hn3 hma3 HAD c0 c1 c2 c3 c4 c5 c6 c7 c8 HMA HSEP HL2 hn
 obtain ⟨c0,c1,c2,c3,c4,c5,c6,c7,c8⟩:=cfg_cells HL3.out.bel
 go_upto_region 8 with (fail)
 go_region_held3 (fun V=>V.cell? ⟨w.heap.size,0,none⟩=some (.int .i64 (cf 0))∧V.cell? ⟨w.heap.size,1,none⟩=some (.int .i64 (cf 1))∧V.cell? ⟨w.heap.size,2,none⟩=some (.int .i64 (cf 2))∧V.cell? ⟨w.heap.size,3,none⟩=some (.int .i64 (cf 3))∧V.cell? ⟨w.heap.size,4,none⟩=some (.int .i64 (cf 4))∧V.cell? ⟨w.heap.size,5,none⟩=some (.int .i64 (cf 5))∧V.cell? ⟨w.heap.size,6,none⟩=some (.int .i64 (cf 6))∧V.cell? ⟨w.heap.size,7,none⟩=some (.int .i64 (cf 7))∧V.cell? ⟨w.heap.size,8,none⟩=some (.int .i64 (cf 8))) (first|exact ⟨c0,c1,c2,c3,c4,c5,c6,c7,c8⟩|go_keep) (fail)
 have HWB:=hJ (wb_new (cf:=cf) (n:=n) (HL3.out.rebase HBX.out) HMA3.out HSEP3.out (fun q hq=>by have h1:=HNW.out q hq;have h2:=HL1.out.bel.size;have h3:=HBX.out.size;omega) (by rw [←HD0.out]) (by rw [←HD0.out];simp only;have:=HNN.out;omega) hnb 53)
 rw [show D.X=X by rw [←HD0.out]] at HWB
 go_upto_region 9 with (fail)
 refine wp_forget (fun V=>WB w V ⟨w3.heap.size+1,S,d,D,some ⟨w3.heap.size,0,none⟩,n⟩ t (fun _=>none) 1990000 [⟨⟨X1,M1,d.Q,cf,(cf 4).toNat,(cf 7).toNat,(cf 8).toNat⟩,none,0,[],fun _=>none,0⟩] (List.replicate (cf 6).toNat none) (List.replicate n none)) (HWB.out.up (by first|exact (Below.refl _ _).drew|exact Below.refl _ _)) ?_
 rintro V hV
 have HV:=hJ hV
 obtain ⟨o,ho⟩:∃o:WD,WD.mk (w3.heap.size+1) S d D (some ⟨w3.heap.size,0,none⟩) n=o:=⟨_,rfl⟩
 rw [ho] at HV
 have HO:=hJ ho
 clear hV HWB c0 c1 c2 c3 c4 c5 c6 c7 c8 HL3 HMA3 HSEP3 HL1 HPO HNM hmk
 have hX:X=o.D.X:=by rw [←HO.out,←HD0.out]
 have hW:w3.heap.size+1=o.W:=by rw [←HO.out]
 have hN:n=o.D.n:=by rw [←HO.out,←HD0.out];simp only;have:=HNN.out;omega
 have hNz:(cf 6).toNat=n:=by have:=HNN.out;omega
 rw [hX,hW]
 rw [hNz] at HV
 have HDO:=hJ (do_any HV.out.ma 1 0 0 0 0 [] (fun p hp=>by have:=List.eq_of_mem_replicate hp;cases this) (A:=none) 0 (SBy.nil _ _) (fun g o' h=>by simp at h))
 clear hX hW
 go_upto_region 10 with (go_at_call 70;refine HDO.out.mono ?_;rintro e w4 ⟨P4,h4,h5,hp4,Ad,cd,Ap,cp,he4,_⟩;unfold ansV at he4;obtain rfl:=he4;have HM4:=hJ (And.intro h4 h5);have HP4:=hJ hp4;clear h4 h5 hp4)
 have h4:=HV.out.mach HM4.out.1 HM4.out.2
 have H4:=hJ h4
 obtain ⟨g4,hg4,lg4,hcg4,fg4⟩:=h4.rAt
 have r0:=hcg4 0 none (by rw [List.getElem?_replicate,if_pos (by omega)])
 have f0:=fg4 0
 have c11:=h4.c11
 have lW4:=h4.ltW
 unfold WD.rv at c11
 rw [hg4,←hN] at c11
 have hA:g4=w3.heap.size:=by rw [←HO.out] at hg4;cases hg4;rfl
 simp only [Option.map_none] at r0
 have HS:=hJ (h4.setQ hg4 (by omega) 0 (some X1))
 have hnI:(0:Int)<(n:Int):=by omega
 clear h4 hcg4 fg4 hA HDO
 go_wp2
 go_ret
 have hpl:plP (List.replicate n (none:Option MPr))=List.replicate n none:=by unfold plP;rw [List.map_replicate];rfl
 have hlS:lS (List.replicate n (none:Option Spc))=[]:=lS_rep n
 have hqS:qS (List.replicate n (none:Option Spc))=List.replicate n none:=by unfold qS;rw [List.map_replicate];rfl
 have hWR:WR o.D (fun _=>none) (List.replicate n none) (plP (List.replicate n (none:Option MPr))):=by
  rw [hpl]
  refine ⟨by simp,fun i hi=>?_,fun i p hp=>?_⟩
  · rw [List.getElem?_replicate] at hi ⊢
    split at hi
    · rename_i h;rw [if_pos h]
    · cases hi
  · rw [List.getElem?_replicate] at hp
    split at hp<;>cases hp
 have hOk:(SpD.mk X1 M1 d.Q cf (cf 4).toNat (cf 7).toNat (cf 8).toNat).Ok:=by
  obtain ⟨h1,h2,h3,h4⟩:=HG.out
  exact ⟨by simp only;omega,by simp only;omega,by simp only;omega,by simp only;omega,by simp only;omega,by simp only;omega⟩
 refine ⟨o,t,fun _=>none,_,P4,rfl,WS.new (s':=⟨⟨X1,M1,d.Q,cf,(cf 4).toNat,(cf 7).toNat,(cf 8).toNat⟩,none,0,[],fun _=>none,0⟩) (p':=⟨[],[]⟩) hWR (fun q hq=>?_) (k:=0) ?_ ?_ ?_ (PgRel.new hOk) ?_ ?_ (Nat.le_refl _),?_,⟨⟨⟨X1,M1,d.Q,cf,(cf 4).toNat,(cf 7).toNat,(cf 8).toNat⟩,none,0,[],fun _=>none,0⟩,?_⟩,?_⟩
 · rw [hpl] at hq
   have:=List.eq_of_mem_replicate hq
   cases this
 · rw [List.getElem?_replicate,if_pos (by omega)]
 · rw [hlS,hqS]
   exact HS.out
 · rw [HP4.out,hpl,doF_make hnb.1]
 · refine ⟨?_,?_,?_,?_⟩<;>(rw [←HO.out,←HD0.out])
 · rw [hlS]
   intro x hx
   cases hx
 · rw [←HO.out];exact HZN.out.2
 · rw [List.getElem?_set,if_pos rfl,if_pos (by rw [List.length_replicate];omega)]
 · rw [←HO.out,←HD0.out]
section
variable {w0 w w' w1 w2:World} {o:WD} {t t':PSt ShS} {C C':Cu} {kk k U:Nat} {sp:List (Option Spc)} {P P':List (Option MPr)}
theorem WS.dn (h:WS w0 w o t C kk U sp P):1≤o.D.n∧o.D.n≤64:=by
 have:=h.b.ma.f.good.2.1
 have:=h.b.ma.f.en
 omega
end
section
variable {w0 w w' w1 w2:World} {o:WD} {t t':PSt ShS} {C C':Cu} {kk k U:Nat} {sp:List (Option Spc)} {P P':List (Option MPr)} {s:Spc}
def RdW (w0 w:World) (o:WD) (t:PSt ShS) (C:Cu) (kk U:Nat) (sp:List (Option Spc)) (P:List (Option MPr)) (b:Bytes) (e:Ending) (w':World):Prop:=
 ∃t' A c,e=.returned (.tuple #[.slice A o.d.z c,.int .i64 0])∧WS w0 w' o t' C kk U sp P∧SwN shP w w' o.d t t' (lS sp) (lS sp)∧SBy w' A o.d.z b
theorem WS.read (h:WS w0 w o t C (kk+1) U sp P) {x:MPg} {i:Nat} {p:MPr} (hk:sp[k]? =some (some s)) (hP:P[k]? =some (some p)) (hx:p.L[i]? =some x) {id:Int} (hm:s.m (x.n:Nat)=some id):
 Calls Tryz.prog 27 #[.pointer (some ⟨o.d.Q,0,none⟩),.int .i64 id,.int .i64 0,.int .i64 (o.d.z:Nat)] w (RdW w0 w o t C kk U sp P x.b):=by
 obtain ⟨p',hp',hr,hd⟩:=h.r.at_ hk
 have hpl:=plP_at hP
 rw [hpl] at hp'
 cases hp'
 have hss:=h.b.lw.sw.ss s (lS_mem.2 (List.mem_of_getElem? hk))
 obtain ⟨⟨b,u⟩,hc⟩:=hss.has _ _ hm
 obtain ⟨_,_,_,hbl,_⟩:=hss.pv.con id b u hc
 have hmem:(x.n,x.b)∈p.pl.L:=by
  unfold MPr.pl
  exact List.mem_map.2 ⟨x,List.mem_of_getElem? hx,rfl⟩
 have hb:b=x.b:=hr.page hss.ok hmem hm hc (by rw [hss.z];exact hbl)
 refine (pv_read shK_good shP_miss h.b.lw.sw.pv hc (off:=0) (n:=o.d.z) (by omega)).mono ?_
 rintro e w' ⟨t',hv,hx',_,_,hc'⟩
 rcases hc' with ⟨A,c,rfl,hs,_⟩|⟨_,hn⟩
 · obtain ⟨h1,h2⟩:=h.b.lw.sw.page hx' hv
   refine ⟨t',A,c,rfl,⟨(h.b.less (Nat.le_succ _)).sw ((h.b.lw.less (Nat.le_succ _)).go h1 h2) h2,h.r,h.few⟩,h2,?_⟩
   have e0:secP b 0 o.d.z=b:=by unfold secP;rw [List.drop_zero,←hbl,List.take_length]
   rw [e0,hb] at hs
   obtain ⟨A1,n1,c1,e1,_,h3⟩:=hs
   cases e1
   exact h3
 · exact absurd h.b.lw.rm hn
set_option maxRecDepth 100000 in
set_option maxHeartbeats 4000000 in
theorem bytes16_any (h:WS w0 w o t C (kk+64*U) U sp P) (hU:U≤100000):Calls Tryz.prog 30 #[.pointer (some ⟨o.W,0,none⟩)] w fun e w'=>e=.returned (.bool true)∧∃t',WS w0 w' o t' C kk U sp P:=by
 have HS:=hJ h
 have hlen:=h.len
 have hnb:=h.dn
 obtain ⟨N,hN⟩:∃N,o.D.n=N:=⟨_,rfl⟩
 rw [hN] at hlen hnb
 have HNN:=hJ hN
 clear h hN
 go_enter Tryz.func30,Tryz.ntmps30
 go_wp2
 go_loopw [3] (fun i wr=>∃(j:Nat) (t1:PSt ShS),j≤N∧i=.int .i64 (j:Nat)∧WS w0 wr o t1 C (kk+(64-j)*U) U sp P) (fun i _=>N-(intOf i).toNat)
 case atStart=>exact ⟨0,t,by omega,rfl,HS.out⟩
 case round=>
  obtain ⟨j,t1,hj,rfl,hw⟩:=hrel
  have HW:=hJ hw
  obtain ⟨g,hg,lg,hcg,fg⟩:=hw.b.rAt
  have c11:=hw.b.c11
  have lW:=hw.b.ltW
  unfold WD.rv at c11
  rw [hg,HNN.out] at c11
  by_cases hjn:j<N
  · have hjI:(j:Int)<(N:Int):=by omega
    obtain ⟨xj,hxj⟩:∃x,sp[j]? =some x:=⟨_,List.getElem?_eq_getElem (by omega)⟩
    have rj:=hcg j _ (by unfold qS;rw [List.getElem?_map,hxj];rfl)
    have HXJ:=hJ hxj
    have hBU:(64-j)*U=(64-(j+1))*U+U:=by
     obtain ⟨m,hm⟩:∃m,64-j=m+1:=⟨63-j,by omega⟩
     rw [hm,show 64-(j+1)=m by omega,Nat.succ_mul]
    have HBU:=hJ hBU
    clear hw hcg fg hxj hg hBU
    cases xj with
    | none=>
      simp only [Option.map_none] at rj
      go_wp2
      go_roundw
      case rel=>exact ⟨j+1,t1,by omega,by go_num,HW.out.less (by have:=HBU.out;omega) (Nat.le_refl _)⟩
      case measure=>simp [intOf];omega
    | some s=>
      simp only [Option.map_some] at rj
      have hss:=HW.out.b.lw.sw.ss s (lS_mem.2 (List.mem_of_getElem? HXJ.out))
      have hqn:=HW.out.qn HXJ.out
      have hsnb:s.n≤100000:=by omega
      have HQN:=hJ hqn
      have HSL:=hJ (slots_b hss.sp (by omega))
      obtain ⟨pp,hpp,hr,hd⟩:=HW.out.r.at_ HXJ.out
      obtain ⟨p,hp,hpl⟩:=plP_get hpp
      have HPP:=hJ hp
      have HDZ:Hid (o.D.cf 4=(o.d.z:Nat)):=hJ (by
       have h1:=HW.out.b.ma.f.ez
       have h2:=hd.2.1
       have h3:=hss.z
       rw [h1,←h2,h3])
      have HKS:Hid (∀l,SlOf s.m s.n l→l.map (·.1)=p.L.map fun x=>((x.n:Nat):Int)):=hJ fun l hl=>by
       rw [hr.slots hl,←hpl]
       unfold keysL MPr.pl
       simp only [List.map_map]
       rfl
      clear hss hqn hpp hr hd hp hpl
      go_upto_region 6 with (go_at_call 19;refine HSL.out.mono ?_;rintro e w4 ⟨A4,c4,sl,hsl,rfl,hf4⟩;have HF4:=hJ hf4;have HSO:=hJ hsl;clear hf4 hsl)
      have HSN:=hJ HSO.out.len
      have HW4:=hJ (HW.out.up HF4.out.2)
      have HKS:=hJ (HKS.out _ HSO.out)
      have HO4:Hid (∀b,eO A4 sl.length b→¬swO o.d t1 (lS sp) b):=hJ fun b hb e=>by
       have h1:=(HF4.out.1.lt (HF4.out.1.own hb)).1
       have h2:=HW.out.b.lw.sw.lt e
       omega
      have HAT:=hJ HF4.out.1.rg
      clear rj c11 lW lg
      go_wp2_with fail
      go_loopw [5] (fun i wq=>∃(q:Nat) (t2:PSt ShS),q≤s.n∧i=.int .i64 (q:Nat)∧WS w0 wq o t2 C (kk+(64-(j+1))*U+(s.n-q)) U sp P∧EAt slE wq A4 sl∧∀b,eO A4 sl.length b→¬swO o.d t2 (lS sp) b) (fun i _=>s.n-(intOf i).toNat)
      case atStart=>exact ⟨0,t1,by omega,rfl,HW4.out.less (by have:=HBU.out;have:=HQN.out;omega) (Nat.le_refl _),HAT.out,HO4.out⟩
      case round=>
       obtain ⟨q,t2,hq,rfl,hwq,haq,hoq⟩:=hrel
       have HWQ:=hJ hwq
       have HAQ:=hJ haq
       have HOQ:=hJ hoq
       clear hoq
       by_cases hqn:q<s.n
       · have hqI:(q:Int)<(s.n:Int):=by omega
         obtain ⟨⟨y,id⟩,hx⟩:∃x,sl[q]? =some x:=⟨_,List.getElem?_eq_getElem (by have:=HSN.out;omega)⟩
         obtain ⟨ga,oa,rfl,hga,hca⟩:=haq.at_ (by have:=HSN.out;omega)
         have k1:wr.cell? ⟨ga,oa+q*2+1,none⟩=some (.int .i64 id):=hca q (y,id) hx 1 _ rfl
         have hml:=congrArg (fun l=>l[q]?) HKS.out
         simp only [List.getElem?_map,hx,Option.map_some] at hml
         obtain ⟨x,hxL,hxn⟩:∃x,p.L[q]? =some x∧y=((x.n:Nat):Int):=by
          cases e:p.L[q]? with
          |none=>rw [e] at hml;cases hml
          |some x=>rw [e] at hml;exact ⟨x,rfl,by simpa using hml⟩
         have hid:s.m ((x.n:Nat):Int)=some id:=by
          rw [←hxn]
          exact (HSO.out.mem y id).1 (List.mem_of_getElem? hx)
         have c9:=hwq.b.c9
         have d4:=hwq.b.cc 4 (by omega)
         rw [HDZ.out] at d4
         have lW:=hwq.b.ltW
         have HRD:=hJ (fun (V:World) (hV:Below wr.heap.size wr V)=>WS.read (kk:=kk+(64-(j+1))*U+(s.n-(q+1))) ((hwq.up hV).less (by omega) (Nat.le_refl _)) HXJ.out HPP.out hxL hid)
         have HXL:=hJ hxL
         clear hca hx hml hxL hxn hid hwq haq
         go_upto_region 9 with (fail)
         refine wp_region_up_tail 14 (by kernel_rfl) (by kernel_rfl) (by kernel_rfl) ?_
         simp only [List.take_succ_cons,List.take_zero,List.drop_succ_cons,List.drop_zero]
         repeat (go_big_quiet_step (fail))
         refine wpQuiet_nil ?_
         rintro _ ⟨g5,rfl⟩
         have HB5:=hJ g5.h
         generalize g5.world=w5 at *
         go_upto_region 10 with (go_at_call 27;refine (HRD.out _ HB5.out).mono ?_;rintro e w6 ⟨t6,A6,c6,rfl,h6,hn6,hs6⟩;have H6:=hJ h6;have HN6:=hJ hn6;have HS6:=hJ hs6;clear h6 hn6 hs6)
         obtain ⟨gp,hgp,lgp,hcgp,_⟩:=H6.out.b.ma.f.qAt
         have r2:=hcgp j (some p.X) (by rw [List.getElem?_map,HPP.out];rfl)
         have hp6:=H6.out.b.ma.get HPP.out
         have c10:=H6.out.b.c10
         have m10:=H6.out.b.ma.f.c10
         have p1:=hp6.c1
         have lW6:=H6.out.b.ltW
         have lX6:=H6.out.b.ma.f.ltX
         have lp6:=hp6.ltX
         unfold MaD.qv at m10
         unfold MPr.lv at p1
         rw [hgp,HNN.out] at m10
         simp only [Option.map_some] at r2
         obtain ⟨gl,ol,hLA,hgl,hcl⟩:=hp6.pg.at_ (by have:=(List.getElem?_eq_some_iff.1 HXL.out).1;omega)
         have q1:w6.cell? ⟨gl,ol+q*2+1,none⟩=some (.slice (some ⟨x.g,0,none⟩) x.b.length x.c):=hcl q x HXL.out 1 _ rfl
         rw [hLA] at p1
         have hqL:(q:Int)<(p.L.length:Int):=by have:=(List.getElem?_eq_some_iff.1 HXL.out).1;omega
         have hbx:=(hp6.bys x (List.mem_of_getElem? HXL.out)).part.2.2
         have cv1:∀gg:Up w6,(convert 24 9 (.slice A6 o.d.z c6)).run Tryz.prog gg.world=.ok (.string (strB x.b)) gg.world:=fun gg=>(HS6.out.up gg.h).str c6
         have cv2:∀gg:Up w6,(convert 24 9 (.slice (some ⟨x.g,0,none⟩) x.b.length x.c)).run Tryz.prog gg.world=.ok (.string (strB x.b)) gg.world:=fun gg=>(hbx.up gg.h).str x.c
         obtain ⟨st,hst⟩:∃st,strB x.b=st:=⟨_,rfl⟩
         have hse:=strB_eq x.b x.b
         rw [decide_eq_true rfl,hst] at hse
         rw [hst] at cv1 cv2
         obtain ⟨PL,hPL⟩:∃n,p.L.length=n:=⟨_,rfl⟩
         obtain ⟨XB,hXB⟩:∃n,x.b.length=n:=⟨_,rfl⟩
         rw [hPL] at p1 hqL
         rw [hXB] at q1 cv2
         clear hcgp hgp hp6 hLA hcl hbx hst hPL hXB c9 d4 lW k1 hga
         refine wp_region_up (by kernel_rfl) (by kernel_rfl) ?_
         repeat (go_big_quiet_step (fail))
         refine wpQuiet_nil ?_
         rintro _ ⟨g12,rfl⟩
         have H12:=hJ (H6.out.up g12.h)
         have HA12:=hJ (((HAQ.out.up HB5.out).off HN6.out.off (fun b e1 e2=>HOQ.out b e2 e1)).up g12.h)
         have HO12:Hid (∀b,eO (some ⟨ga,oa,none⟩) sl.length b→¬swO o.d t6 (lS sp) b):=hJ fun b hb=>(HN6.out.keep ((HAQ.out.up HB5.out).lt hb) (HOQ.out b hb)).2
         generalize g12.world=w12 at *
         clear hse cv1 cv2
         go_wp2
         go_roundw
         case rel=>exact ⟨q+1,t6,by omega,by go_num,H12.out,HA12.out,HO12.out⟩
         case measure=>simp [intOf];omega
       · obtain rfl:q=s.n:=by omega
         have hq2:¬(s.n:Int)<(s.n:Int):=by omega
         clear hwq haq
         go_wp2
         go_roundw
         case rel=>exact ⟨j+1,t2,by omega,by go_num,HWQ.out.less (by omega) (Nat.le_refl _)⟩
         case measure=>simp [intOf];omega
  · obtain rfl:j=N:=by omega
    have hj2:¬(j:Int)<(j:Int):=by omega
    clear hw hcg fg
    go_wp2
    go_ret
    exact ⟨rfl,t1,HW.out.less (by omega) (Nat.le_refl _)⟩
end
end Go.Proofs.YtlhfjaagkgengaaGreat
