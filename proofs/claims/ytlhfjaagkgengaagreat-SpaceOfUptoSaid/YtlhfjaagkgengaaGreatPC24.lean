/- A space: regions change; pages are let go (facts). A space: Unmap, Close. A space: Close. A space: Shaped; which pages are not there. -/
import Derived.Test.YtlhfjaagkgengaaGreatPC23
namespace Go.Proofs.YtlhfjaagkgengaaGreat
set_option maxRecDepth 100000
set_option maxHeartbeats 8000000
open Go.RowKit Go.Maps
set_option linter.unusedVariables false
set_option linter.unusedSimpArgs false
section
variable {σ:Type} {K:SnkF σ} {M:Snk K} {P:PSnk K} {w w' w1 w2 w3 wr:World} {d:PD} {t t' t1 t2 t3:PSt σ} {C C' C1:Cu} {k k1 k2:Nat} {D:SpD} {A:Option Addr} {cap n:Nat} {L:List Rg} {m m1:Int→Option Int}
def RsPost (M:Snk K) (P:PSnk K) (w:World) (d:PD) (t:PSt σ) (C:Cu) (k:Nat) (D:SpD) (A:Option Addr) (cap:Nat) (L:List Rg) (m:Int→Option Int) (n:Nat) (R:List Rg×Int) (e:Ending) (w':World):Prop:=
 e=.returned (.int .i64 R.2)∧Off (· =D.X) w w'∧((R.2=0∧∃A' cap',SS M P w' d t C k D A' cap' R.1 m n∧∀k,rgO A' R.1.length k→w.heap.size≤k)∨(R.2≠0∧SS M P w' d t C k D A cap L m n))
theorem SS.turn (h:SS M P w d t C k D A cap L m n) {R:List Rg×Int} {e:Ending} (ht:TuPost w D A cap L m n R e w') (hR:R.2=0→R.1.length≤10000):RsPost M P w d t C k D A cap L m n R e w':=by
 obtain ⟨he,ho,hc⟩:=ht
 refine ⟨he,ho,?_⟩
 have hpv:Pv M P w' d t C k:=h.pv.offL ho (fun b e=>by rw [e];exact h.sep _ (.inl rfl))
 rcases hc with ⟨h0,A',cap',hs,hg⟩|⟨h0,hs⟩
 · refine .inl ⟨h0,A',cap',⟨hs,hpv,h.ok,h.q,h.z,fun q hq=>?_,h.has,hR h0⟩,hg⟩
   rcases hq with e|e|e
   · exact h.sep q (.inl e)
   · exact h.sep q (.inr (.inl e))
   · intro ho2
     have:=hg q e
     have:=h.pv.lt ho2
     omega
 · exact .inr ⟨h0,hs,hpv,h.ok,h.q,h.z,h.sep,h.has,h.len⟩
theorem fitF_len {D:SpD} (hD:D.Ok) {R:List Rg×Int} (h:(fitF D R).2=0):(fitF D R).1.length≤10000:=by
 have h7:=hD.b7
 unfold fitF at h ⊢
 split
 · simp
 · rename_i hn
   rw [if_neg hn] at h
   have:¬(D.rg:Int)<R.1.length:=fun e=>hn ⟨h,e⟩
   omega
theorem mappedF_len {D:SpD} (hD:D.Ok) {L:List Rg} {a j p:Int} (h:(mappedF D L a j p).2=0):(mappedF D L a j p).1.length≤10000:=by
 unfold mappedF at h ⊢
 split
 · simp
 · rename_i hn;rw [if_neg hn] at h;exact fitF_len hD h
theorem unmappedF_len {D:SpD} (hD:D.Ok) {L:List Rg} {a j:Int} (h:(unmappedF D L a j).2=0):(unmappedF D L a j).1.length≤10000:=by
 unfold unmappedF at h ⊢
 split
 · simp
 · rename_i hn;rw [if_neg hn] at h;exact fitF_len hD h
theorem protectedF_len {D:SpD} (hD:D.Ok) {L:List Rg} {a j p:Int} (h:(protectedF D L a j p).2=0):(protectedF D L a j p).1.length≤10000:=by
 unfold protectedF at h ⊢
 split
 · simp
 · rename_i hn;rw [if_neg hn] at h;exact fitF_len hD h
theorem ssMap_b (h:SS M P w d t C k D A cap L m n) (at_ j p:Int) (hd:pagesB D at_ j=true→rightB at_ (at_+j) p=true→piecesF L at_ (at_+j)=[]→RgDist (L ++ [⟨at_,at_+j,p⟩])):
 Calls Tryz.prog 16 #[.pointer (some ⟨D.X,0,none⟩),.int .i64 at_,.int .i64 j,.int .i64 p] w (RsPost M P w d t C k D A cap L m n (mappedF D L at_ j p)):=
 (spMap_b h.sp h.ok h.len at_ j p hd).mono fun e w' ht=>h.turn ht (mappedF_len h.ok)
theorem ssProt_b (h:SS M P w d t C k D A cap L m n) (at_ j p:Int) (hd:pagesB D at_ j=true→rightB at_ (at_+j) p=true→allF L at_ (at_+j) 0=true→RgDist (cutR L at_ (at_+j) ++ [⟨at_,at_+j,p⟩])):
 Calls Tryz.prog 118 #[.pointer (some ⟨D.X,0,none⟩),.int .i64 at_,.int .i64 j,.int .i64 p] w (RsPost M P w d t C k D A cap L m n (protectedF D L at_ j p)):=
 (spProt_b h.sp h.ok h.len at_ j p hd).mono fun e w' ht=>h.turn ht (protectedF_len h.ok)
open Classical in
noncomputable def loM (m:Int→Option Int) (dn:Int→Prop):Int→Option Int:=fun i=>if dn i then none else m i
open Classical in
noncomputable def loC (C:Cu) (m:Int→Option Int) (dn:Int→Prop):Cu:=fun id=>if ∃k,dn k∧m k=some id then decU (C id) else C id
variable {dn dn':Int→Prop}
theorem loM_none (m:Int→Option Int):loM m (fun _=>False)=m:=by funext i;unfold loM;rw [if_neg id]
theorem loC_none (C:Cu) (m:Int→Option Int):loC C m (fun _=>False)=C:=by funext id;unfold loC;rw [if_neg (by rintro ⟨k,h,_⟩;exact h)]
theorem loC_congr {C:Cu} (h:∀k id,m k=some id→(dn k ↔ dn' k)):loC C m dn=loC C m dn':=by
 funext id
 unfold loC
 by_cases c:∃k,dn k∧m k=some id
 · rw [if_pos c]
   obtain ⟨k,h1,h2⟩:=c
   rw [if_pos ⟨k,(h k id h2).1 h1,h2⟩]
 · rw [if_neg c,if_neg]
   rintro ⟨k,h1,h2⟩
   exact c ⟨k,(h k id h2).2 h1,h2⟩
theorem loM_congr (h:∀k id,m k=some id→(dn k ↔ dn' k)):loM m dn=loM m dn':=by
 funext i
 unfold loM
 cases hm:m i with
 |none=>simp
 | some id=>
   by_cases c:dn i
   · rw [if_pos c,if_pos ((h i id hm).1 c)]
   · rw [if_neg c,if_neg (fun e=>c ((h i id hm).2 e))]
theorem lo_at (hinj:∀i j id,m i=some id→m j=some id→i=j) {q id:Int} (hm:m q=some id) (hd:¬dn q):loC C m dn id=C id:=by
 unfold loC
 rw [if_neg]
 rintro ⟨j,hj,hj2⟩
 rw [hinj j q id hj2 hm] at hj
 exact hd hj
theorem lo_step (hinj:∀i j id,m i=some id→m j=some id→i=j) {q id:Int} (hm:m q=some id) (hdn:∀i,dn' i ↔ dn i∨i=q):loC C m dn'=updU (loC C m dn) id (decU (C id))∧loM m dn'=updM (loM m dn) q none:=by
 constructor
 · funext i
   by_cases h1:i=id
   · rw [h1,updU_same]
     unfold loC
     rw [if_pos ⟨q,(hdn _).2 (.inr rfl),hm⟩]
   · rw [updU_ne _ _ h1]
     unfold loC
     by_cases c:∃j,dn j∧m j=some i
     · rw [if_pos c]
       obtain ⟨j,h2,h3⟩:=c
       rw [if_pos ⟨j,(hdn _).2 (.inl h2),h3⟩]
     · rw [if_neg c,if_neg]
       rintro ⟨j,h2,h3⟩
       rcases (hdn _).1 h2 with g|g
       · exact c ⟨j,g,h3⟩
       · rw [g,hm] at h3
         exact h1 (Option.some.inj h3).symm
 · funext i
   by_cases h1:i=q
   · rw [h1,updM_same]
     unfold loM
     rw [if_pos ((hdn _).2 (.inr rfl))]
   · rw [updM_ne _ _ h1]
     unfold loM
     by_cases h2:dn i
     · rw [if_pos h2,if_pos ((hdn _).2 (.inl h2))]
     · rw [if_neg h2,if_neg (fun g=>by rcases (hdn _).1 g with g|g;exact h2 g;exact h1 g)]
structure LoI {σ:Type} {K:SnkF σ} (M:Snk K) (P:PSnk K) (w wr:World) (d:PD) (t t':PSt σ) (C1:Cu) (k:Nat) (D:SpD) (A:Option Addr) (cap:Nat) (L:List Rg) (m1:Int→Option Int) (n1:Nat):Prop where
 sp:SpAt wr D A cap L m1 n1
 pv:Pv M P wr d t' C1 k
 sep:∀q,spO D A L.length q→¬Own d t' q
 nx:Nxs P (· =D.Mm) w wr d t t'
 e1:t'.nx=t.nx
theorem LoI.off (h:LoI M P w w1 d t t1 C1 k D A cap L m1 n) {S:Nat→Prop} (ho:Off S w1 w2) (h1:∀b,S b→¬Own d t1 b) (h2:∀b,S b→¬spO D A L.length b) (h3:∀b,S b→w.heap.size≤b):LoI M P w w2 d t t1 C1 k D A cap L m1 n:=
 ⟨h.sp.off ho h2,h.pv.offL ho h1,h.sep,h.nx.offS ho fun b e=>.inr (h3 b e),h.e1⟩
theorem lo_let (hq:D.Q=d.Q) (h:LoI M P w w1 d t t1 (loC C m dn) k D A cap L m1 n) (hinj:∀i j id,m i=some id→m j=some id→i=j) (hhas:∀i id,m i=some id→∃p,C id=some p) {q id:Int} (hm:m q=some id) (hd:¬dn q) (hdn:∀i,dn' i ↔ dn i∨i=q) (hu:∀b u,C id=some (b,u)→0≤u∧u≤1000000):
 Calls Tryz.prog 65 #[.pointer (some ⟨d.Q,0,none⟩),.int .i64 id] w1 fun x w2=>x=.returned (.tuple #[])∧∃t2,Nx P w1 w2 d t1 t2∧LoI M P w w2 d t t2 (loC C m dn') k D A cap L m1 n:=by
 obtain ⟨⟨b,u⟩,hp2⟩:=hhas _ _ hm
 have ha:=lo_at (C:=C) hinj hm hd
 refine (pv_let h.pv (ha.trans hp2) (hu b u hp2)).mono ?_
 rintro x w2 ⟨rfl,t2,hv2,hx2,e21,e22⟩
 rw [ha,←(lo_step hinj hm hdn).1] at hv2
 exact ⟨rfl,t2,hx2,⟨h.sp.off hx2.off (fun g e hg=>h.sep g hg e),hv2,fun g hg=>(hx2.keep (h.sp.lt hg) (h.sep g hg)).2,h.nx.trans hx2.nxs,e21.trans h.e1⟩⟩
end
set_option maxRecDepth 100000
set_option maxHeartbeats 8000000
section
variable {σ:Type} {K:SnkF σ} {M:Snk K} {P:PSnk K} {w w' w1 w2 w3 wr:World} {d:PD} {t t' t1 t2 t3:PSt σ} {C C' C1:Cu} {k k1 k2:Nat} {D:SpD} {A:Option Addr} {cap n:Nat} {L:List Rg} {m m1:Int→Option Int}
def inU (a j:Int) (i:Int):Prop:=a≤i∧i<a+j
def UmPost (M:Snk K) (P:PSnk K) (w:World) (d:PD) (t:PSt σ) (C:Cu) (k:Nat) (D:SpD) (A:Option Addr) (cap:Nat) (L:List Rg) (m:Int→Option Int) (n:Nat) (R:List Rg×Int) (a j:Int) (e:Ending) (w':World):Prop:=
 ∃ t',e=.returned (.int .i64 R.2)∧Nxs P (fun k=>k=D.Mm∨k=D.X) w w' d t t'∧t'.nx=t.nx∧
   ((R.2=0∧∃A' cap' n',SS M P w' d t' (loC C m (inU a j)) k D A' cap' R.1 (loM m (inU a j)) n'∧∀k,rgO A' R.1.length k→w.heap.size≤k)∨
    (R.2≠0∧SS M P w' d t' C k D A cap L m n))
theorem unmap_b (h:SS M P w d t C k D A cap L m n) (a j:Int) (hinj:∀i j id,m i=some id→m j=some id→i=j) (hkr:∀i id,m i=some id→0≤i∧i≤300000000) (hu:∀i id b u,m i=some id→C id=some (b,u)→0≤u∧u≤1000000):
 Calls Tryz.prog 117 #[.pointer (some ⟨D.X,0,none⟩),.int .i64 a,.int .i64 j] w (UmPost M P w d t C k D A cap L m n (unmappedF D L a j) a j):=by
 have HT:=hJ (turn_b h.sp (ent_fn Tryz.func156 (by kernel_rfl) rfl) (unmapped_b h.sp h.ok h.len a j 0))
 have H:=hJ h
 have lX:=h.sp.ltX
 have HINJ:=hJ hinj
 have HKR:=hJ hkr
 have HU:=hJ hu
 obtain ⟨R,hR⟩:∃R,unmappedF D L a j=R:=⟨_,rfl⟩
 have HRL:Hid (R.2=0→R.1.length≤10000):=hJ (by rw [←hR];exact unmappedF_len h.ok)
 have HPA:Hid (R.2=0→0≤a∧1≤j∧a+j≤65536):=hJ fun h0=>by
  rw [←hR] at h0
  unfold unmappedF at h0
  split at h0
  · cases h0
  · rename_i hp
    have h8:=h.ok.b8
    have:pagesB D a j=true:=by cases hb:pagesB D a j with
     |true=>rfl
     |false=>exact absurd hb hp
    have:=of_decide_eq_true this
    omega
 rw [hR] at HT ⊢
 clear h hinj hkr hu hR
 obtain ⟨M1,er⟩:=R
 go_enter Tryz.func117,Tryz.ntmps117
 go_wp2_with fail
 refine HT.out.mono ?_
 intro e w1 htu
 have hrs:=H.out.turn htu HRL.out
 obtain ⟨rfl,ho1,hc⟩:=hrs
 have HO1:=hJ ho1
 clear htu ho1 HT
 rcases hc with ⟨h0,A',cap',hs,hg⟩|⟨h0,hs⟩
 · simp only at h0 hs hg
   subst h0
   have HS:=hJ hs
   have HG:=hJ hg
   have HP:=hJ (HPA.out rfl)
   have c11:=hs.sp.c11
   have lX1:=hs.sp.ltX
   clear hs hg HPA
   obtain ⟨w2,hrg,hit,hb2⟩:=MapIs.range HS.out.sp.mp Tryz.underlying112
   have hMr:D.Mm<w1.heap.size:=HS.out.sp.mp.lt
   have HIT:=hJ hit
   have HB2:=hJ hb2
   obtain ⟨Br,hBr⟩:∃g,w1.heap.size=g:=⟨_,rfl⟩
   rw [hBr] at hrg HIT hMr
   have HBR:=hJ hBr
   clear hit hb2 hBr
   go_upto_region 5 with (fail)
   clear hrg c11 lX1 lX
   go_loopw [8,9] (fun _ _ wr=>∃(left:Value→Prop) (c':Nat) (t':PSt σ) (n':Nat),LoI M P w1 wr d t t' (loC C m (fun i=>inU a j i∧¬left (.int .i64 i))) k D A' cap' M1 (loM m (fun i=>inU a j i∧¬left (.int .i64 i))) n'∧
    ItIs Tryz.prog 3 wr D.Mm Br (spF (loM m (fun i=>inU a j i∧¬left (.int .i64 i)))) left c'∧¬Own d t' Br) (fun _ _ wr=>wr.rangeLeft D.Mm Br)
   case atStart=>
    have e0:(fun i=>inU a j i∧¬True)=fun _=>False:=by funext i;simp
    refine ⟨fun _=>True,n,t,n,?_,?_,fun e=>by have:=HS.out.pv.lt e;have:=HBR.out;omega⟩
    · rw [e0,loC_none,loM_none]
      have h2:=HS.out.up HB2.out
      exact ⟨h2.sp,h2.pv,h2.sep,Nxs.refl.up HB2.out,rfl⟩
    · rw [e0,loM_none]
      exact HIT.out
   case round=>
    obtain ⟨left,c',t4,n4,hlo,hit,hno⟩:=hrel
    have HL:=hJ hlo
    have HIT4:=hJ hit
    have HNO:=hJ hno
    have hnx:=hit.next (by omega)
    clear hlo hit hno HIT HB2
    rcases hnx with ⟨h0,hno,hrun⟩|⟨key,val,w5,hf,hlf,hpos,⟨kl,hkl⟩,hrun,ho,hs5,hit5,hent⟩
    · have HN:=hJ hno
      clear hno h0
      go_wp2
      go_ret
      have hcg:∀i id,m i=some id→((inU a j i∧¬left (.int .i64 i)) ↔ inU a j i):=fun i id hm=>by
       refine ⟨fun h=>h.1,fun h=>⟨h,fun hl=>?_⟩⟩
       have e:loM m (fun i=>inU a j i∧¬left (.int .i64 i)) i=some id:=by
        unfold loM
        rw [if_neg (fun h=>h.2 hl)]
        exact hm
       exact HN.out (.int .i64 i) (.int .i64 id) (by rw [spF_at,e];rfl) hl
      have hl:=HL.out
      rw [loC_congr hcg,loM_congr hcg] at hl
      refine ⟨t4,rfl,⟨(HO1.out.mono fun k e=>.inr (.inr e)).late hl.nx.off (fun i hi e=>e.imp id .inl),fun q hq=>(hl.nx.own q hq).imp id (fun e=>Nat.le_trans HO1.out.size e),hl.nx.rm⟩,hl.e1,.inl ⟨rfl,A',cap',n4,⟨hl.sp,hl.pv,HS.out.ok,HS.out.q,HS.out.z,hl.sep,fun i id hi=>?_,HS.out.len⟩,HG.out⟩⟩
      unfold loM at hi
      split at hi
      · cases hi
      · rename_i hd
        rw [lo_at HINJ.out hi hd]
        exact HS.out.has i id hi
    · obtain ⟨q,id,rfl,hmq,rfl⟩:=spF_inv hf
      have hmd:m q=some id∧¬(inU a j q∧¬left (.int .i64 q)):=by
       unfold loM at hmq
       split at hmq
       · cases hmq
       · rename_i hd;exact ⟨hmq,hd⟩
      have hkr:=HKR.out q id hmd.1
      have HMD:=hJ hmd
      have hlo5:=HL.out.off ho (fun b e=>by rw [e];exact HNO.out) (fun b e hb=>by
       have:=HS.out.sp.lt hb
       have:=HBR.out
       have:b=Br:=e
       omega) (fun b e=>by rw [e];exact Nat.le_of_eq HBR.out)
      have HL5:=hJ hlo5
      have s9:=hlo5.sp.c9
      rw [HS.out.q] at s9
      have lX5:=hlo5.sp.ltX
      have HIT5:=hJ hit5
      have hwr:IntKind.i64.wrap (q-a)=q-a:=by have:=HP.out;exact IntWalk.i64_in _ (by omega)
      have HK:=hJ hkl
      have HLF:=hJ hlf
      clear hf hmq hmd hlf hkl ho hit5 hlo5 hs5
      by_cases hin:a≤q∧q-a<j
      · have hdn:∀i,(inU a j i∧¬(left (.int .i64 i)∧Value.int .i64 i≠.int .i64 q)) ↔ (inU a j i∧¬left (.int .i64 i))∨i=q:=by
         intro i
         constructor
         · rintro ⟨h1,h2⟩
           by_cases h3:left (.int .i64 i)
           · right
             by_cases h4:(Value.int .i64 i)=.int .i64 q
             · injection h4
             · exact absurd ⟨h3,h4⟩ h2
           · exact .inl ⟨h1,h3⟩
         · rintro (⟨h1,h2⟩|rfl)
           · exact ⟨h1,fun h=>h2 h.1⟩
           · exact ⟨⟨hin.1,by omega⟩,fun h=>h.2 rfl⟩
        have HDN:=hJ hdn
        have HLT:=hJ (lo_let HS.out.q HL5.out HINJ.out HS.out.has HMD.out.1 HMD.out.2 hdn (fun b u=>HU.out q id b u HMD.out.1))
        have i1:=hin.1
        have i2:=hin.2
        clear hdn hin
        go_upto_region 9 with (go_at_call 65;go_loud (refine HLT.out.mono ?_;rintro e6 w6 ⟨rfl,t6,hx6,hl6⟩;have HX6:=hJ hx6;have HL6:=hJ hl6;have s11:=hl6.sp.c11;have lX6:=hl6.sp.ltX;clear hx6 hl6))
        obtain ⟨w7,hr7,hm7,hit7,ho7⟩:=ItIs.del (HIT5.out.off HX6.out.off (HL5.out.sep _ (.inr (.inl rfl))) HNO.out) HL6.out.sp.mp intKeyed Tryz.underlying112 HK.out (fun h=>h.2 rfl) (by omega) 0
        obtain ⟨w8,hr8,hs8,ho8⟩:=HL6.out.sp.delM (i:=q) (by omega) 0
        rw [hr7] at hr8
        injection hr8 with _ hw78
        subst hw78
        have e9:=(lo_step (C:=C) HINJ.out HMD.out.1 HDN.out).2
        rw [←e9] at hs8
        rw [spF_del,←e9] at hit7
        have HS8:=hJ hs8
        have HIT7:=hJ hit7
        have HO7:=hJ ho7
        clear hs8 ho8 hm7 hit7 ho7 e9 s9 lX5 HLT
        go_wp2_with (at_delete;go_must (refine wpList_delete0 rfl rfl (.tmp 48) (.tmp 49) 112 3 rfl _ _ rfl rfl hr7 ?_))
        go_roundw
        case rel=>
         have hl6:=HL6.out
         have hMm:D.Mm<w1.heap.size:=HS.out.sp.mp.lt
         refine ⟨fun x=>left x∧x≠.int .i64 q,c'-1,t6,_,⟨HS8.out,hl6.pv.offL HO7.out (fun b e=>by rw [e];exact hl6.sep _ (.inr (.inl rfl))),hl6.sep,hl6.nx.offS HO7.out (fun b e=>.inl e),hl6.e1⟩,HIT7.out,(HX6.out.keep HIT5.out.lt.2 HNO.out).2⟩
        case measure=>rw [HIT7.out.left_eq,HIT4.out.left_eq];omega
      · have hcg:(fun i=>inU a j i∧¬(left (.int .i64 i)∧Value.int .i64 i≠.int .i64 q))=fun i=>inU a j i∧¬left (.int .i64 i):=by
         funext i
         refine propext ⟨fun h=>⟨h.1,fun hl=>h.2 ⟨hl,fun e=>?_⟩⟩,fun h=>⟨h.1,fun hl=>h.2 hl.1⟩⟩
         injection e with _ e
         subst e
         exact hin ⟨h.1.1,by have:=h.1.2;omega⟩
        have HCG:=hJ hcg
        clear hcg
        by_cases h1:a≤q
        · have h2:¬q-a<j:=fun h=>hin ⟨h1,h⟩
          have hd2:decide (q-a<j)=false:=decide_eq_false h2
          clear hin
          go_wp2
          go_roundw
          case rel=>exact ⟨fun x=>left x∧x≠.int .i64 q,c'-1,t4,n4,by rw [HCG.out];exact HL5.out,by rw [HCG.out];exact HIT5.out,HNO.out⟩
          case measure=>rw [HIT5.out.left_eq,HIT4.out.left_eq];omega
        · have hd1:decide (a≤q)=false:=decide_eq_false h1
          clear hin
          go_wp2
          go_roundw
          case rel=>exact ⟨fun x=>left x∧x≠.int .i64 q,c'-1,t4,n4,by rw [HCG.out];exact HL5.out,by rw [HCG.out];exact HIT5.out,HNO.out⟩
          case measure=>rw [HIT5.out.left_eq,HIT4.out.left_eq];omega
 · have hb:(er !=0)=true:=by simp at h0;simp [h0]
   have HS:=hJ hs
   have HE:=hJ h0
   simp only at HE
   clear hs h0
   go_wp2
   go_ret
   exact ⟨t,rfl,⟨HO1.out.mono fun k e=>.inr (.inr e),fun _=>.inl,id⟩,rfl,.inr ⟨HE.out,HS.out⟩⟩
end
set_option maxRecDepth 100000
set_option maxHeartbeats 8000000
section
variable {σ:Type} {K:SnkF σ} {M:Snk K} {P:PSnk K} {w w' w1 w2 w3 wr:World} {d:PD} {t t' t1 t2 t3:PSt σ} {C C' C1:Cu} {k k1 k2:Nat} {D:SpD} {A:Option Addr} {cap n:Nat} {L:List Rg} {m m1:Int→Option Int}
def ClPost (M:Snk K) (P:PSnk K) (w:World) (d:PD) (t:PSt σ) (C:Cu) (k:Nat) (D:SpD) (m:Int→Option Int) (e:Ending) (w':World):Prop:=
 ∃t',e=.returned (.tuple #[])∧Nxs P (fun k=>k=D.Mm∨k=D.X) w w' d t t'∧t'.nx=t.nx∧SS M P w' d t' (loC C m (fun _=>True)) k D none 0 [] (fun _=>none) 0
theorem close_set (h:SpAt w D A cap L m n):SpAt (w.setCell ⟨D.X,10,none⟩ (.slice none 0 0)) D none 0 [] m n∧Off (· =D.X) w (w.setCell ⟨D.X,10,none⟩ (.slice none 0 0)):=by
 have ho:Off (· =D.X) w (w.setCell ⟨D.X,10,none⟩ (.slice none 0 0)):=(Off.refl (· =D.X) w).setCell (p:=⟨D.X,10,none⟩) rfl _
 have ne:∀a,a≠10→(⟨D.X,a,none⟩:Addr)≠⟨D.X,10,none⟩:=fun a h e=>by injection e with _ e;exact h e
 have co:∀a,a≠10→(w.setCell ⟨D.X,10,none⟩ (.slice none 0 0)).cell? ⟨D.X,a,none⟩=w.cell? ⟨D.X,a,none⟩:=fun a ha=>World.cell?_setCell_other _ _ _ _ (fun e=>ne a ha e.symm)
 exact ⟨⟨fun i hi=>(co i (by omega)).trans (h.cc i hi),(co 9 (by omega)).trans h.c9,World.cell?_setCell_same _ _ _ h.c10,(co 11 (by omega)).trans h.c11,fun k=>by rw [World.frozen?_setCell];exact h.fz k,
  RgAt.nil _ _,h.mp.off ho (fun e=>h.neM e.symm),h.neM,⟨fun e=>by have:=e.1;simp at this,fun e=>by have:=e.1;simp at this⟩⟩,ho⟩
theorem close_b (h:SS M P w d t C k D A cap L m n) (hinj:∀i j id,m i=some id→m j=some id→i=j) (hu:∀i id b u,m i=some id→C id=some (b,u)→0≤u∧u≤1000000):
 Calls Tryz.prog 33 #[.pointer (some ⟨D.X,0,none⟩)] w (ClPost M P w d t C k D m):=by
 have HS:=hJ h
 have c11:=h.sp.c11
 have lX:=h.sp.ltX
 have HINJ:=hJ hinj
 have HU:=hJ hu
 obtain ⟨w2,hrg,hit,hb2⟩:=MapIs.range h.sp.mp Tryz.underlying112
 have hMr:D.Mm<w.heap.size:=h.sp.mp.lt
 have HIT:=hJ hit
 have HB2:=hJ hb2
 obtain ⟨Br,hBr⟩:∃g,w.heap.size=g:=⟨_,rfl⟩
 rw [hBr] at hrg HIT hMr
 have HBR:=hJ hBr
 clear hit hb2 hBr h hinj hu
 go_enter Tryz.func33,Tryz.ntmps33
 go_wp2_with fail
 clear hrg c11 lX
 go_loopw [3] (fun _ wr=>∃(left:Value→Prop) (c':Nat) (t':PSt σ),LoI M P w wr d t t' (loC C m (fun i=>(m i).isSome=true∧¬left (.int .i64 i))) k D A cap L m n∧
  ItIs Tryz.prog 3 wr D.Mm Br (spF m) left c'∧¬Own d t' Br) (fun _ wr=>wr.rangeLeft D.Mm Br)
 case atStart=>
  have e0:(fun i=>(m i).isSome=true∧¬True)=fun _=>False:=by funext i;simp
  refine ⟨fun _=>True,n,t,?_,HIT.out,fun e=>by have:=HS.out.pv.lt e;have:=HBR.out;omega⟩
  rw [e0,loC_none]
  have h2:=HS.out.up HB2.out
  exact ⟨h2.sp,h2.pv,h2.sep,Nxs.refl.up HB2.out,rfl⟩
 case round=>
  obtain ⟨left,c',t4,hlo,hit,hno⟩:=hrel
  have HL:=hJ hlo
  have HIT4:=hJ hit
  have HNO:=hJ hno
  have hnx:=hit.next (by omega)
  have s11:=hlo.sp.c11
  have fz:=hlo.sp.fz 10
  have lX4:=hlo.sp.ltX
  clear hlo hit hno HIT HB2
  rcases hnx with ⟨h0,hno,hrun⟩|⟨key,val,w5,hf,hlf,hpos,⟨kl,hkl⟩,hrun,ho,hs5,hit5,hent⟩
  · have HN:=hJ hno
    obtain ⟨w6,hr6,hm6,ho6⟩:=MapIs.clrM HL.out.sp.mp Tryz.underlying112 0
    have HM6:=hJ hm6
    have HO6:=hJ ho6
    have hX:¬D.X=D.Mm:=HL.out.sp.neM
    have f6:=(ho6.frozen (p:=⟨D.X,10,none⟩) lX4 hX).trans fz
    have c6:=(ho6.cell (p:=⟨D.X,10,none⟩) lX4 hX).trans HL.out.sp.c10
    have lX6:=lt_of_cell c6
    clear hno h0 hm6 ho6 hX
    go_upto_region 5 with (refine wpList_clear0 rfl rfl (.tmp 22) 112 rfl _ rfl hr6 ?_)
    go_wp2
    go_end0
    have hl:=HL.out
    have hcg:∀i id,m i=some id→(((m i).isSome=true∧¬left (.int .i64 i)) ↔ True):=fun i id hm=>by
     refine ⟨fun _=>trivial,fun _=>⟨by rw [hm];rfl,HN.out (.int .i64 i) (.int .i64 id) (by rw [spF_at,hm];rfl)⟩⟩
    rw [loC_congr hcg] at hl
    have h6:SpAt w6 D A cap L (fun _=>none) 0:=by
     have hX:¬D.X=D.Mm:=hl.sp.neM
     have hlX:=hl.sp.ltX
     have ho:=HO6.out
     exact ⟨fun i hi=>(ho.cell (p:=⟨D.X,i,none⟩) hlX hX).trans (hl.sp.cc i hi),(ho.cell (p:=⟨D.X,9,none⟩) hlX hX).trans hl.sp.c9,(ho.cell (p:=⟨D.X,10,none⟩) hlX hX).trans hl.sp.c10,(ho.cell (p:=⟨D.X,11,none⟩) hlX hX).trans hl.sp.c11,
      fun k=>(ho.frozen (p:=⟨D.X,k,none⟩) hlX hX).trans (hl.sp.fz k),hl.sp.row.off ho (fun k e e2=>by subst e;exact hl.sp.neA.2 e2),by rw [spF_none];exact HM6.out,hl.sp.neM,hl.sp.neA⟩
    obtain ⟨h7,ho7⟩:=close_set h6
    have hsM:=hl.sep D.Mm (.inr (.inl rfl))
    have hsX:=hl.sep D.X (.inl rfl)
    refine ⟨t4,rfl,?_,hl.e1,⟨h7,(hl.pv.offL HO6.out (fun b e=>by rw [e];exact hsM)).offL ho7 (fun b e=>by rw [e];exact hsX),HS.out.ok,HS.out.q,HS.out.z,fun q hq=>?_,(fun i id hi=>by cases hi),by simp⟩⟩
    · exact ((hl.nx.mono fun k e=>.inl e).offS HO6.out (fun b e=>.inl (.inl e))).offS ho7 (fun b e=>.inl (.inr e))
    · rcases hq with e|e|e
      · rw [e];exact hsX
      · rw [e];exact hsM
      · have:=e.1;simp at this
  · obtain ⟨q,id,rfl,hmq,rfl⟩:=spF_inv hf
    have hd:¬((m q).isSome=true∧¬left (.int .i64 q)):=fun h=>h.2 hlf
    have hlo5:=HL.out.off ho (fun b e=>by rw [e];exact HNO.out) (fun b e hb=>by
     have:=HS.out.sp.lt hb
     have:=HBR.out
     have:b=Br:=e
     omega) (fun b e=>by rw [e];exact Nat.le_of_eq HBR.out)
    have s9:=hlo5.sp.c9
    rw [HS.out.q] at s9
    have lX5:=hlo5.sp.ltX
    have HIT5:=hJ hit5
    have hdn:∀i,((m i).isSome=true∧¬(left (.int .i64 i)∧Value.int .i64 i≠.int .i64 q)) ↔ ((m i).isSome=true∧¬left (.int .i64 i))∨i=q:=by
     intro i
     constructor
     · rintro ⟨h1,h2⟩
       by_cases h3:left (.int .i64 i)
       · right
         by_cases h4:(Value.int .i64 i)=.int .i64 q
         · injection h4
         · exact absurd ⟨h3,h4⟩ h2
       · exact .inl ⟨h1,h3⟩
     · rintro (⟨h1,h2⟩|rfl)
       · exact ⟨h1,fun h=>h2 h.1⟩
       · exact ⟨by rw [hmq];rfl,fun h=>h.2 rfl⟩
    have HLT:=hJ (lo_let HS.out.q hlo5 HINJ.out HS.out.has hmq hd hdn (fun b u=>HU.out q id b u hmq))
    clear hf hmq hlf hkl ho hit5 hlo5 hs5 hdn hd s11 fz lX4
    go_wp2_with (go_at_call 65;go_loud (refine HLT.out.mono ?_;rintro e6 w6 ⟨rfl,t6,hx6,hl6⟩;have HX6:=hJ hx6;have HL6:=hJ hl6;clear hx6 hl6))
    have HIT7:=hJ (HIT5.out.off HX6.out.off (HL.out.sep _ (.inr (.inl rfl))) HNO.out)
    go_roundw
    case rel=>exact ⟨fun x=>left x∧x≠.int .i64 q,c'-1,t6,HL6.out,HIT7.out,(HX6.out.keep HIT5.out.lt.2 HNO.out).2⟩
    case measure=>rw [HIT7.out.left_eq,HIT4.out.left_eq];omega
end
set_option maxRecDepth 100000
set_option maxHeartbeats 8000000
def slotB (L:List Rg) (l:List (Int×Int)) (i:Nat):Bool:=
 match l[i]? with
 |none=>true
 | some x=>findB L x.1 && (match i with
   |0=>true
   | j+1=>match l[j]? with
     |none=>true
     |some y=>decide (y.1<x.1))
def shapedB (ps rg:Nat) (L:List Rg) (l:List (Int×Int)):Bool:=rightL ps L && decide (L.length≤rg) && (List.range l.length).all (slotB L l)
theorem shaped_no {ps rg:Nat} {L:List Rg} {l:List (Int×Int)} {j:Nat} (hj:j<l.length) (h:slotB L l j=false):shapedB ps rg L l=false:=by
 unfold shapedB
 rw [show (List.range l.length).all (slotB L l)=false from by rw [List.all_eq_false];exact ⟨j,by simp [hj],by simp [h]⟩,Bool.and_false]
theorem shaped_yes {ps rg:Nat} {L:List Rg} {l:List (Int×Int)} (h1:rightL ps L=true) (h2:L.length≤rg) (h:∀i,i<l.length→slotB L l i=true):shapedB ps rg L l=true:=by
 unfold shapedB
 rw [h1,decide_eq_true h2,show (List.range l.length).all (slotB L l)=true from by rw [List.all_eq_true];intro i hi;exact h i (by simpa using hi)]
 rfl
theorem slot_find {L:List Rg} {l:List (Int×Int)} {j:Nat} {x:Int×Int} (hx:l[j]? =some x) (h:findB L x.1=false):slotB L l j=false:=by
 unfold slotB
 rw [hx]
 simp [h]
theorem slot_zero {L:List Rg} {l:List (Int×Int)} {x:Int×Int} (hx:l[0]? =some x) (h:findB L x.1=true):slotB L l 0=true:=by
 unfold slotB
 rw [hx]
 simp [h]
theorem slot_succ {L:List Rg} {l:List (Int×Int)} {j:Nat} {x y:Int×Int} (hx:l[j+1]? =some x) (hy:l[j]? =some y) (h:findB L x.1=true):slotB L l (j+1)=decide (y.1<x.1):=by
 unfold slotB
 rw [hx]
 simp [h,hy]
theorem EAt.sl {w:World} {g o:Nat} {l:List (Int×Int)} {j:Nat} {x:Int×Int} (hc:∀(i:Nat) (x:Int×Int),l[i]? =some x→∀(j:Nat) (u:Value),(slE.cells x)[j]? =some u→w.cell? ⟨g,o+i*slE.k+j,none⟩=some u) (hx:l[j]? =some x):
 w.cell? ⟨g,o+j*2,none⟩=some (.int .i64 x.1)∧w.cell? ⟨g,o+j*2+1,none⟩=some (.int .i64 x.2):=⟨hc j x hx 0 _ rfl,hc j x hx 1 _ rfl⟩
theorem alloc_cells (w:World) (arr:Array Value) (t:TypeId) (k:Nat) (v:Value) (h:arr[k]? =some v):(w.alloc (.cells arr t)).cell? ⟨w.heap.size,k,none⟩=some v:=by
 rw [cell_of_row _ _ _ _ _ _ (heap_alloc_new w _)];exact h
theorem shaped_any (w:World) {cf:Nat→Int} {ps rg:Nat} (e7:cf 7=(rg:Nat)) (e8:cf 8=(ps:Nat)) (hrg:rg≤32) {A B:Option Addr} (cA cB:Nat) {L:List Rg} {l:List (Int×Int)} (hL:RgAt w A L) (hn:L.length≤10000) (hl:EAt slE w B l) (hln:l.length≤100000):
 Calls Tryz.prog 74 #[cfgV cf,.slice A L.length cA,.slice B l.length cB] w fun e w'=>e=.returned (.bool (shapedB ps rg L l))∧Below w.heap.size w w':=by
 have HL:=hJ hL
 have HE:=hJ hl
 obtain ⟨R,hR⟩:∃R,shapedB ps rg L l=R:=⟨_,rfl⟩
 have HNO:Hid (∀j,j<l.length→slotB L l j=false→R=false):=hJ fun j h1 h2=>by rw [←hR];exact shaped_no h1 h2
 have HNR:Hid (rightL ps L=false→R=false):=hJ fun h=>by rw [←hR];unfold shapedB;rw [h];rfl
 have HNL:Hid (¬L.length≤rg→R=false):=hJ fun h=>by rw [←hR];unfold shapedB;rw [decide_eq_false h,Bool.and_false];rfl
 have HYES:Hid (rightL ps L=true→L.length≤rg→(∀i,i<l.length→slotB L l i=true)→R=true):=hJ fun h1 h2 h=>by rw [←hR];exact shaped_yes h1 h2 h
 rw [hR]
 clear hL hl hR
 unfold cfgV
 rw [e7,e8]
 generalize cf 0=x0 at *
 generalize cf 1=x1 at *
 generalize cf 2=x2 at *
 generalize cf 3=x3 at *
 generalize cf 4=x4 at *
 generalize cf 5=x5 at *
 generalize cf 6=x6 at *
 clear e7 e8
 go_enter Tryz.func74,Tryz.ntmps74
 go_upto_region 1 with (fail)
 refine wp_forget (fun V=>Below w.heap.size w V∧V.cell? ⟨w.heap.size,7,none⟩=some (.int .i64 (rg:Nat))∧V.cell? ⟨w.heap.size,8,none⟩=some (.int .i64 (ps:Nat))) ⟨jB.alloc jN _,alloc_cells _ _ _ 7 _ rfl,alloc_cells _ _ _ 8 _ rfl⟩ ?_
 rintro V ⟨hbv,c7,c8⟩
 obtain ⟨b3,hb3⟩:∃g,w.heap.size=g:=⟨_,rfl⟩
 rw [hb3] at c7 c8
 rw [hb3]
 have HBV:=hJ hbv
 have HB3:=hJ hb3
 have l8:=lt_of_cell c8
 have HR:=hJ (rightG_any V cA (HL.out.up hbv) (by omega) (ps:Int))
 clear hbv hb3
 obtain ⟨g1,hg1⟩:∃g,rightL ps L=g:=⟨_,rfl⟩
 rw [hg1] at HR HNR HYES
 clear hg1
 cases g1 with
 | false=>
   go_wp2_with (go_at_call 119;go_loud (refine HR.out.mono ?_;rintro e w1 ⟨rfl,hb⟩;have HB:=hJ hb;clear hb))
   go_ret
   exact ⟨by rw [HNR.out (by simp)]<;>rfl,HBV.out.trans (HB.out.mono HBV.out.size)⟩
 | true=>
   by_cases hlr:L.length≤rg
   · have hdl:decide ((rg:Int)<(L.length:Int))=false:=decide_eq_false (by omega)
     go_upto_region 3 with (go_at_call 119;go_loud (refine HR.out.mono ?_;rintro e w1 ⟨rfl,hb⟩;have d7:=(hb.cell (p:=⟨b3,7,none⟩) l8).trans c7;have l8':=lt_of_cell d7;have HB:=hJ (HBV.out.trans (hb.mono HBV.out.size));clear hb))
     clear c7 c8 l8 d7 l8' HR
     go_wp2_with fail
     have hdl2:decide (rg<L.length)=false:=decide_eq_false (by omega)
     simp only [hdl2]
     go_loopw [25,7,8,9,10] (fun i _ _ _ _ wr=>∃(j:Nat),j≤l.length∧i=.int .i64 (j:Nat)∧Below w.heap.size w wr∧∀q,q<j→slotB L l q=true) (fun i _ _ _ _ _=>l.length-(intOf i).toNat)
     case atStart=>exact ⟨0,by omega,rfl,HB.out,fun q h=>by omega⟩
     case round=>
      obtain ⟨j,hj,rfl,hb,hok⟩:=hrel
      have HBR:=hJ hb
      have HOK:=hJ hok
      clear hok HB
      by_cases hjn:j<l.length
      · obtain ⟨x,hx⟩:∃x,l[j]? =some x:=⟨_,jE hjn⟩
        obtain ⟨g,o,hA,hg,hc⟩:=(HE.out.up hb).at_ (by omega)
        obtain ⟨q0,q1⟩:=EAt.sl hc hx
        have hjI:(j:Int)<(l.length:Int):=by omega
        rw [hA]
        have HA:=hJ hA
        have HX:=hJ hx
        obtain ⟨xk,xi⟩:=x
        simp only at q0 q1
        clear hc hA hx hb
        go_upto_region 6 with (fail)
        refine wp_forget (fun V=>Below wr.heap.size wr V∧V.cell? ⟨wr.heap.size,0,none⟩=some (.int .i64 xk)) ⟨jB.alloc jN _,alloc_cells _ _ _ 0 _ rfl⟩ ?_
        rintro W ⟨hbw,y0⟩
        obtain ⟨b8,hb8⟩:∃g,wr.heap.size=g:=⟨_,rfl⟩
        rw [hb8] at y0
        rw [hb8]
        have ly:=lt_of_cell y0
        have HBW:=hJ (HBR.out.trans (hbw.mono HBR.out.size))
        have HFI:=hJ (findG_any W cA (HL.out.up HBW.out) (by omega) xk)
        clear hbw q0 q1 hb8
        go_upto_region 7 with (go_at_call 120;go_loud (refine HFI.out.mono ?_;rintro e W1 ⟨⟨z1,z2,z3,rfl⟩,hb1⟩;have y1:=(hb1.cell (p:=⟨b8,0,none⟩) ly).trans y0;have ly1:=lt_of_cell y1;have HB1:=hJ (HBW.out.trans (hb1.mono HBW.out.size));clear hb1))
        clear y0 ly HFI
        refine wp_forget (fun V=>Below w.heap.size w V∧V.cell? ⟨b8,0,none⟩=some (.int .i64 xk)) ⟨HB1.out.trans ((jB.alloc jN _).mono HB1.out.size),(((Below.refl W1.heap.size W1).alloc jN _).cell (p:=⟨b8,0,none⟩) ly1).trans y1⟩ ?_
        rintro W2 ⟨hb2,v0⟩
        have lv:=lt_of_cell v0
        have HB2:=hJ hb2
        clear y1 ly1 HBW HB1
        obtain ⟨fb,hfb⟩:∃z,findB L xk=z:=⟨_,rfl⟩
        rw [hfb]
        have HFB:=hJ hfb
        cases fb with
        | false=>
          have HR2:=hJ (HNO.out j hjn (slot_find HX.out HFB.out))
          clear hb2 hfb
          go_upto_region 7 with (fail)
          go_quiet (fail)
          go_wp2
          go_ret
          exact ⟨by rw [HR2.out]<;>rfl,below_drewN HB2.out _⟩
        | true=>
          by_cases hj0:j=0
          · have HZ:Hid (slotB L l j=true):=hJ (by
             have h:=HX.out
             rw [hj0] at h ⊢
             exact slot_zero h HFB.out)
            have hjz:decide ((0:Int)<(j:Int))=false:=decide_eq_false (by omega)
            have hjz2:decide (0<j)=false:=decide_eq_false (by omega)
            have HJ0:=hJ hj0
            clear hb2 hfb hj0
            go_upto_region 7 with (fail)
            go_quiet (fail)
            go_wp2
            go_roundw
            case rel=>
             have hj0:=HJ0.out
             refine ⟨j+1,by omega,by go_num,below_drewN HB2.out _,fun q hq=>?_⟩
             obtain rfl:q=j:=by omega
             exact HZ.out
            case measure=>simp [intOf];omega
          · obtain ⟨i,hji⟩:∃i,j=i+1:=⟨j-1,by omega⟩
            have HJI:=hJ hji
            obtain ⟨y,hy⟩:∃y,l[i]? =some y:=⟨_,jE (by omega)⟩
            have hA2:=HA.out
            obtain ⟨g',o',hA',hg',hc'⟩:=(HE.out.up hb2).at_ (by omega)
            rw [hA2] at hA'
            cases hA'
            obtain ⟨p0,_⟩:=EAt.sl hc' hy
            have HS:Hid (slotB L l j=decide (y.1<xk)):=hJ (by
             have h:=HX.out
             rw [hji] at h ⊢
             exact slot_succ h hy HFB.out)
            obtain ⟨yk,yi⟩:=y
            simp only at p0 HS
            have hjz:decide ((0:Int)<(j:Int))=true:=decide_eq_true (by omega)
            have hjz2:decide (0<j)=true:=decide_eq_true (by omega)
            have hsub:(j:Int)-1=(i:Int):=by omega
            have hwi:IntKind.i64.wrap (i:Int)=(i:Int):=IntWalk.i64_in _ (by omega)
            have hil:(i:Int)<(l.length:Int):=by omega
            clear hb2 hfb hc' hy hA2 hj0 hji
            by_cases hle:xk≤yk
            · have hdd:decide (xk≤yk)=true:=decide_eq_true hle
              have HR2:=hJ (HNO.out j hjn (by rw [HS.out];exact decide_eq_false (by omega)))
              go_upto_region 7 with (fail)
              go_quiet (fail)
              go_wp2
              go_ret
              exact ⟨by rw [HR2.out]<;>rfl,below_drewN HB2.out _⟩
            · have hdd:decide (xk≤yk)=false:=decide_eq_false hle
              have HS2:Hid (slotB L l j=true):=hJ (by rw [HS.out];exact decide_eq_true (by omega))
              go_upto_region 7 with (fail)
              go_quiet (fail)
              go_wp2
              go_roundw
              case rel=>exact ⟨j+1,by omega,by go_num,below_drewN HB2.out _,fun q hq=>by
               by_cases e:q=j
               · subst e;exact HS2.out
               · exact HOK.out q (by omega)⟩
              case measure=>simp [intOf];omega
      · obtain rfl:j=l.length:=by omega
        have hii:¬(l.length:Int)<(l.length:Int):=by omega
        clear hjn hb
        go_wp2
        go_ret
        exact ⟨by rw [HYES.out (by simp) hlr HOK.out]<;>rfl,HBR.out⟩
   · have hdl:decide ((rg:Int)<(L.length:Int))=true:=decide_eq_true (by omega)
     go_wp2_with (go_at_call 119;go_loud (refine HR.out.mono ?_;rintro e w1 ⟨rfl,hb⟩;have d7:=(hb.cell (p:=⟨b3,7,none⟩) l8).trans c7;have l8':=lt_of_cell d7;have HB:=hJ (HBV.out.trans (hb.mono HBV.out.size));clear hb))
     go_ret
     exact ⟨by rw [HNL.out hlr]<;>rfl,HB.out⟩
end Go.Proofs.YtlhfjaagkgengaaGreat
