/- A space: Fork. Spaces on one pager: how many have a page. -/
import Derived.Test.YtlhfjaagkgengaaGreatPC25
import Derived.Test.YtlhfjaagkgengaaGreatPC21
namespace Go.Proofs.YtlhfjaagkgengaaGreat
set_option maxRecDepth 100000
set_option maxHeartbeats 4000000
open Go.RowKit Go.Maps
set_option linter.unusedVariables false
set_option linter.unusedSimpArgs false
def hasI (m:Int→Option Int) (id:Int):Prop:=∃i,m i=some id
open Classical in
noncomputable def kpC (C:Cu) (m:Int→Option Int):Cu:=fun id=>if hasI m id then (C id).map fun p=>(p.1,p.2+1) else C id
theorem slF_of {m:Int→Option Int} {n:Nat} {l:List (Int×Int)} (h:SlOf m n l):slF l=m:=by
 have hl:l.take l.length=l:=List.take_length
 funext i
 cases hm:m i with
 | none=>
   have:=slF_none (l:=l) l.length i (by
    rw [hl]
    rintro ⟨a,b⟩ hx e
    simp only at e
    subst e
    have:=(h.mem a b).1 hx
    rw [hm] at this;cases this)
   rw [hl] at this
   exact this
 | some id =>
   have hmem:=(h.mem i id).2 hm
   have key:∀(l:List (Int×Int)),l.Pairwise (fun x y=>x.1<y.1)→(i,id)∈l→slF l i=some id:=by
    intro l hp
    have hgo:∀(l:List (Int×Int)) (m0:Int→Option Int),l.Pairwise (fun x y=>x.1<y.1)→(((i,id)∈l)∨(m0 i=some id∧∀x∈l,x.1≠i))→l.foldl (fun m x=>updM m x.1 (some x.2)) m0 i=some id:=by
     intro l
     induction l with
     |nil=>intro m0 _ h;rcases h with h|h;cases h;exact h.1
     | cons y l ih=>
       intro m0 hp h
       obtain ⟨h1,h2⟩:=List.pairwise_cons.1 hp
       rw [List.foldl_cons]
       refine ih _ h2 ?_
       rcases h with h|h
       · rcases List.mem_cons.1 h with e|h
         · right
           subst e
           exact ⟨updM_same _ _ _,fun x hx=>by have:=h1 x hx;simp only at this;omega⟩
         · exact .inl h
       · right
         refine ⟨?_,fun x hx=>h.2 x (jP hx)⟩
         rw [updM_ne _ _ (fun e=>h.2 y jM e.symm)]
         exact h.1
    intro hm
    exact hgo l _ hp (.inl hm)
   exact key l h.up hmem
theorem keepC_of {C:Cu} {m:Int→Option Int} {n:Nat} {l:List (Int×Int)} (h:SlOf m n l) (hinj:∀i j id,m i=some id→m j=some id→i=j):keepC C l=kpC C m:=by
 have hgo:∀(l:List (Int×Int)) (C:Cu) (id:Int),l.Pairwise (fun x y=>x.1<y.1)→(∀x∈l,∀y∈l,x.2=y.2→x.1=y.1)→
  keepC C l id=if (∃x∈l,x.2=id) then (C id).map (fun p=>(p.1,p.2+1)) else C id:=by
  intro l
  induction l with
  |nil=>intro C id _ _;rw [if_neg (by rintro ⟨x,hx,_⟩;cases hx)];rfl
  | cons y l ih=>
    intro C id hp hd
    obtain ⟨h1,h2⟩:=List.pairwise_cons.1 hp
    have ih2:=ih (updU C y.2 ((C y.2).map fun p=>(p.1,p.2+1))) id h2 (fun a ha b hb=>hd a (jP ha) b (jP hb))
    rw [show keepC C (y::l) id=keepC (updU C y.2 ((C y.2).map fun p=>(p.1,p.2+1))) l id from rfl,ih2]
    by_cases e:id=y.2
    · have hn:¬∃x∈l,x.2=id:=by
       rintro ⟨x,hx,e2⟩
       have e3:=hd x (jP hx) y jM (by rw [e2,e])
       have:=h1 x hx
       omega
      rw [if_neg hn,e,updU_same,if_pos ⟨y,jM,rfl⟩]
    · rw [updU_ne _ _ e]
      by_cases c:∃x∈l,x.2=id
      · rw [if_pos c]
        obtain ⟨x,hx,e2⟩:=c
        rw [if_pos ⟨x,List.mem_cons_of_mem _ hx,e2⟩]
      · rw [if_neg c,if_neg]
        rintro ⟨x,hx,e2⟩
        rcases List.mem_cons.1 hx with rfl|hx
        · exact e e2.symm
        · exact c ⟨x,hx,e2⟩
 funext id
 rw [hgo l C id h.up (fun x hx y hy e=>hinj x.1 y.1 x.2 ((h.mem x.1 x.2).1 hx) (by rw [e];exact (h.mem y.1 y.2).1 hy))]
 unfold kpC
 by_cases c:hasI m id
 · rw [if_pos c]
   obtain ⟨i,hi⟩:=c
   rw [if_pos ⟨(i,id),(h.mem i id).2 hi,rfl⟩]
 · rw [if_neg c,if_neg]
   rintro ⟨x,hx,e⟩
   exact c ⟨x.1,by rw [←e];exact (h.mem x.1 x.2).1 hx⟩
section
variable {σ:Type} {K:SnkF σ} {M:Snk K} {P:PSnk K} {w w' w1 w2 w3 wr:World} {d:PD} {t t' t1 t2 t3:PSt σ} {C C' C1:Cu} {k k1 k2:Nat} {D:SpD} {A:Option Addr} {cap n:Nat} {L:List Rg} {m m1:Int→Option Int}
def FkPost (M:Snk K) (P:PSnk K) (w:World) (d:PD) (t:PSt σ) (C:Cu) (k:Nat) (D:SpD) (L:List Rg) (m:Int→Option Int) (n:Nat) (e:Ending) (w':World):Prop:=
 ∃ X Mm A' cap' t',e=.returned (.pointer (some ⟨X,0,none⟩))∧SS M P w' d t' (kpC C m) k ⟨X,Mm,d.Q,D.cf,D.pg,D.rg,D.ps⟩ A' cap' L m n∧Nx P w w' d t t'∧t'.nx=t.nx∧
   ∀q,spO ⟨X,Mm,d.Q,D.cf,D.pg,D.rg,D.ps⟩ A' L.length q→w.heap.size≤q
theorem fork_of (h:SS M P w d t C k D A cap L m n) (hn:n≤100000) (hinj:∀i j id,m i=some id→m j=some id→i=j) (hkr:∀i id,m i=some id→i64R i) (hu:∀i id b u,m i=some id→C id=some (b,u)→0≤u∧u≤500000) (hR:rightL D.ps L=true) (hLn:L.length≤D.rg) (hF:∀i id,m i=some id→findB L i=true)
 {B:Option Addr} {cB:Nat} {l:List (Int×Int)} (hl:SlOf m n l) (hf:FrE slE w w1 (.slice B n cB) l):
 Calls Tryz.prog 23 #[cfgV D.cf,.pointer (some ⟨D.Q,0,none⟩),.slice A L.length cap,.slice B n cB] w1 fun e w2=>∃X,e=.returned (.tuple #[.pointer (some ⟨X,0,none⟩),.int .i64 0])∧FkPost M P w d t C k D L m n (.returned (.pointer (some ⟨X,0,none⟩))) w2:=by
 have hs1:=h.up hf.2
 have hll:l.length=n:=hl.len
 have hO:∀q,w.heap.size≤q→¬Own d t q:=fun q hq ho=>by have:=h.pv.lt ho;omega
 have hof:=of_b (B:=B) (l:=l) (cf:=D.cf) (pg:=D.pg) (rg:=D.rg) (ps:=D.ps) hs1.pv ⟨h.ok.e4,h.ok.e7,h.ok.e8,h.ok.b4,h.ok.b7,h.ok.b8⟩ h.z cap cB hs1.sp.row h.len hf.1.rg (by omega)
  (fun x hx=>⟨hkr x.1 x.2 ((hl.mem x.1 x.2).1 hx),by
   obtain ⟨p,hp⟩:=h.has x.1 x.2 ((hl.mem x.1 x.2).1 hx)
   exact h.pv.idb hp⟩) (fun x hx b u=>hu x.1 x.2 b u ((hl.mem x.1 x.2).1 hx)) (fun q hq=>h.sep q (.inr (.inr hq))) (fun q hq=>hO q (hf.1.lt (hf.1.own hq)).1)
 rw [hll] at hof
 rw [h.q]
 refine hof.mono ?_
 rintro e w2 (⟨hbad,rfl,_⟩|⟨h1,h2,X,Mm,A',cap',t',rfl,hss,hnx,he,hnew⟩)
 · exfalso
   rcases hbad with hb|hb
   · have:shapedB D.ps D.rg L l=true:=by
      refine shaped_yes hR hLn fun i hi=>?_
      obtain ⟨x,hx⟩:∃x,l[i]? =some x:=⟨_,jE hi⟩
      have hfx:=hF x.1 x.2 ((hl.mem x.1 x.2).1 (jG hx))
      cases i with
      |zero=>exact slot_zero hx hfx
      | succ j=>
        obtain ⟨y,hy⟩:∃y,l[j]? =some y:=⟨_,jE (by omega)⟩
        rw [slot_succ hx hy hfx]
        have a1:=jS.1 hx
        have a2:=jS.1 hy
        have:=List.pairwise_iff_getElem.1 hl.up j (j+1) a2.1 a1.1 (by omega)
        rw [a1.2,a2.2] at this
        exact decide_eq_true this
     rw [this] at hb;cases hb
   · rw [List.any_eq_true] at hb
     obtain ⟨x,hx,hx2⟩:=hb
     obtain ⟨p,hp⟩:=h.has x.1 x.2 ((hl.mem x.1 x.2).1 hx)
     rw [hp] at hx2
     cases hx2
 · rw [keepC_of hl hinj,slF_of hl,hll] at hss
   refine ⟨X,rfl,X,Mm,A',cap',t',rfl,hss,(Nx.refl.up hf.2).trans hnx,he,fun q hq=>Nat.le_trans hf.2.size (hnew q hq)⟩
theorem fork_b (h:SS M P w d t C k D A cap L m n) (hn:n≤100000) (hinj:∀i j id,m i=some id→m j=some id→i=j) (hkr:∀i id,m i=some id→i64R i) (hu:∀i id b u,m i=some id→C id=some (b,u)→0≤u∧u≤500000) (hR:rightL D.ps L=true) (hLn:L.length≤D.rg) (hF:∀i id,m i=some id→findB L i=true):
 Calls Tryz.prog 32 #[.pointer (some ⟨D.X,0,none⟩)] w (FkPost M P w d t C k D L m n):=by
 have HSL:Hid (∀V,Below w.heap.size w V→Calls Tryz.prog 19 #[.pointer (some ⟨D.X,0,none⟩)] V fun e w'=>∃B cB l,SlOf m n l∧e=.returned (.slice B n cB)∧FrE slE w w' (.slice B n cB) l):=hJ fun V hb=>(slots_b (h.sp.up hb) hn).mono fun e w' ⟨B,cB,l,hl,he,hf⟩=>⟨B,cB,l,hl,he,hf.1.mono hb.size,hb.trans (hf.2.mono hb.size)⟩
 have HFK:Hid (∀w1 B cB l,SlOf m n l→FrE slE w w1 (.slice B n cB) l→Calls Tryz.prog 23 #[cfgV D.cf,.pointer (some ⟨D.Q,0,none⟩),.slice A L.length cap,.slice B n cB] w1 fun e w2=>∃X,e=.returned (.tuple #[.pointer (some ⟨X,0,none⟩),.int .i64 0])∧FkPost M P w d t C k D L m n (.returned (.pointer (some ⟨X,0,none⟩))) w2):=
  hJ fun w1 B cB l hl hf=>fork_of h hn hinj hkr hu hR hLn hF hl hf
 have hS:∀V,Below w.heap.size w V→(V.cell? ⟨D.X,0,none⟩=some (.int .i64 (D.cf 0))∧V.cell? ⟨D.X,1,none⟩=some (.int .i64 (D.cf 1))∧V.cell? ⟨D.X,2,none⟩=some (.int .i64 (D.cf 2))∧V.cell? ⟨D.X,3,none⟩=some (.int .i64 (D.cf 3))∧V.cell? ⟨D.X,4,none⟩=some (.int .i64 (D.cf 4))∧V.cell? ⟨D.X,5,none⟩=some (.int .i64 (D.cf 5))∧V.cell? ⟨D.X,6,none⟩=some (.int .i64 (D.cf 6))∧
  V.cell? ⟨D.X,7,none⟩=some (.int .i64 (D.cf 7))∧V.cell? ⟨D.X,8,none⟩=some (.int .i64 (D.cf 8))∧V.cell? ⟨D.X,9,none⟩=some (.pointer (some ⟨D.Q,0,none⟩))∧V.cell? ⟨D.X,10,none⟩=some (.slice A L.length cap)):=fun V hb=>by
  have hs:=h.sp.up hb
  exact ⟨hs.cc 0 (by omega),hs.cc 1 (by omega),hs.cc 2 (by omega),hs.cc 3 (by omega),hs.cc 4 (by omega),hs.cc 5 (by omega),hs.cc 6 (by omega),hs.cc 7 (by omega),hs.cc 8 (by omega),hs.c9,hs.c10⟩
 have lX:=h.sp.ltX
 have hX:¬Own d t D.X:=h.sep _ (.inl rfl)
 have hS2:∀V t',Nx P w V d t t'→(V.cell? ⟨D.X,0,none⟩=some (.int .i64 (D.cf 0))∧V.cell? ⟨D.X,1,none⟩=some (.int .i64 (D.cf 1))∧V.cell? ⟨D.X,2,none⟩=some (.int .i64 (D.cf 2))∧V.cell? ⟨D.X,3,none⟩=some (.int .i64 (D.cf 3))∧V.cell? ⟨D.X,4,none⟩=some (.int .i64 (D.cf 4))∧V.cell? ⟨D.X,5,none⟩=some (.int .i64 (D.cf 5))∧V.cell? ⟨D.X,6,none⟩=some (.int .i64 (D.cf 6))∧
  V.cell? ⟨D.X,7,none⟩=some (.int .i64 (D.cf 7))∧V.cell? ⟨D.X,8,none⟩=some (.int .i64 (D.cf 8))∧V.cell? ⟨D.X,9,none⟩=some (.pointer (some ⟨D.Q,0,none⟩))∧V.cell? ⟨D.X,10,none⟩=some (.slice A L.length cap)):=fun V t' hx=>by
  have key:∀i,V.cell? ⟨D.X,i,none⟩=w.cell? ⟨D.X,i,none⟩:=fun i=>hx.off.cell (p:=⟨D.X,i,none⟩) lX hX
  have hs:=h.sp
  simp only [key]
  exact ⟨hs.cc 0 (by omega),hs.cc 1 (by omega),hs.cc 2 (by omega),hs.cc 3 (by omega),hs.cc 4 (by omega),hs.cc 5 (by omega),hs.cc 6 (by omega),hs.cc 7 (by omega),hs.cc 8 (by omega),hs.c9,hs.c10⟩
 unfold cfgV at HFK
 generalize D.cf 0=x0 at *
 generalize D.cf 1=x1 at *
 generalize D.cf 2=x2 at *
 generalize D.cf 3=x3 at *
 generalize D.cf 4=x4 at *
 generalize D.cf 5=x5 at *
 generalize D.cf 6=x6 at *
 generalize D.cf 7=x7 at *
 generalize D.cf 8=x8 at *
 have HS:=hJ hS
 have HS2:=hJ hS2
 have KS:=hJ (hS _ jB)
 clear h hinj hkr hu hR hLn hF hS hS2 hX
 go_enter Tryz.func32,Tryz.ntmps32
 go_upto_region 1 with (fail)
 go_region_held3 (fun V=>V.cell? ⟨D.X,0,none⟩=some (.int .i64 x0)∧V.cell? ⟨D.X,1,none⟩=some (.int .i64 x1)∧V.cell? ⟨D.X,2,none⟩=some (.int .i64 x2)∧V.cell? ⟨D.X,3,none⟩=some (.int .i64 x3)∧V.cell? ⟨D.X,4,none⟩=some (.int .i64 x4)∧V.cell? ⟨D.X,5,none⟩=some (.int .i64 x5)∧V.cell? ⟨D.X,6,none⟩=some (.int .i64 x6)∧
  V.cell? ⟨D.X,7,none⟩=some (.int .i64 x7)∧V.cell? ⟨D.X,8,none⟩=some (.int .i64 x8)∧V.cell? ⟨D.X,9,none⟩=some (.pointer (some ⟨D.Q,0,none⟩))∧V.cell? ⟨D.X,10,none⟩=some (.slice A L.length cap))
  (first|exact KS.out|exact HS.out _ (jB.drew)|go_keep)
  (first
   |(go_at_call 19;(with_reducible refine (HSL.out _ (by first|exact jB.drew|exact Below.refl _ _)).mono ?_);rintro e w3 ⟨B,cB,l,hl,rfl,hf⟩;have HL1:=hJ hl;have HF1:=hJ hf;have KS:=hJ (HS.out _ hf.2);clear hl hf)
   |(go_at_call 23;(with_reducible refine (HFK.out w3 B cB l HL1.out HF1.out).mono ?_);rintro e w4 ⟨X,rfl,hfk⟩;have HP:=hJ hfk;obtain ⟨_,_,_,_,_,_,_,hx,_⟩:=hfk;have KS:=hJ (HS2.out _ _ hx);clear hx))
 all_goals
  go_wp2
  go_ret
  exact HP.out
end
set_option maxRecDepth 100000
set_option maxHeartbeats 4000000
abbrev Pm:=Int→Option Int
open Classical in
noncomputable def cntI (ms:List Pm) (id:Int):Nat:=ms.countP fun m=>decide (hasI m id)
theorem cntI_yes {m:Pm} {id:Int} (h:hasI m id) (ms:List Pm):cntI (m::ms) id=cntI ms id+1:=by
 unfold cntI
 exact List.countP_cons_of_pos (p:=fun m=>@decide (hasI m id) (Classical.propDecidable _)) (@decide_eq_true _ (_) h)
theorem cntI_no {m:Pm} {id:Int} (h:¬hasI m id) (ms:List Pm):cntI (m::ms) id=cntI ms id:=by
 unfold cntI
 exact List.countP_cons_of_neg (p:=fun m=>@decide (hasI m id) (Classical.propDecidable _)) (by simp [h])
theorem cntI_perm {l l':List Pm} (h:l.Perm l') (id:Int):cntI l id=cntI l' id:=h.countP_eq _
theorem cntI_pos {ms:List Pm} {m:Pm} (h:m∈ms) {id:Int} (hi:hasI m id):0<cntI ms id:=by
 unfold cntI
 rw [List.countP_pos_iff]
 exact ⟨m,h,@decide_eq_true _ (_) hi⟩
theorem cntI_le (ms:List Pm) (id:Int):cntI ms id≤ms.length:=List.countP_le_length
def UsOk (C:Cu) (ms:List Pm):Prop:=∀id,(C id).map (·.2)=if cntI ms id=0 then none else some ((cntI ms id:Nat):Int)
theorem UsOk.perm {C:Cu} {l l':List Pm} (h:UsOk C l) (hp:l.Perm l'):UsOk C l':=fun id=>by rw [←cntI_perm hp id];exact h id
theorem UsOk.got {C:Cu} {l:List Pm} (h:UsOk C l) {id:Int} {b:Bytes} {u:Int} (hc:C id=some (b,u)):u=(cntI l id:Nat)∧0<cntI l id:=by
 have:=h id
 rw [hc,Option.map_some] at this
 split at this
 · cases this
 · injection this with e
   exact ⟨e,by omega⟩
theorem UsOk.has {C:Cu} {l:List Pm} (h:UsOk C l) {id:Int} (hp:0<cntI l id):∃p,C id=some p∧p.2=(cntI l id:Nat):=by
 have:=h id
 rw [if_neg (by omega)] at this
 cases hc:C id with
 |none=>rw [hc] at this;cases this
 | some p=>
   rw [hc,Option.map_some] at this
   injection this with e
   exact ⟨p,rfl,e⟩
theorem UsOk.at {C:Cu} {l:List Pm} (h:UsOk C l) {m:Pm} (hm:m∈l) {i id:Int} (hi:m i=Option.some id):∃p,C id=Option.some p:=by
 obtain ⟨p,hp,_⟩:=h.has (cntI_pos hm ⟨i,hi⟩)
 exact ⟨p,hp⟩
theorem us_less {C:Cu} {m m':Pm} {ms:List Pm} (h:UsOk C (m::ms)) {id:Int} (hm:hasI m id) (hm':¬hasI m' id):(decU (C id)).map (·.2)=if cntI (m'::ms) id=0 then none else some ((cntI (m'::ms) id:Nat):Int):=by
 classical
 obtain ⟨⟨b,u⟩,hc,hu⟩:=h.has (cntI_pos jM hm)
 simp only at hu
 rw [cntI_yes hm] at hu
 rw [cntI_no hm',hc,decU]
 by_cases c:cntI ms id=0
 · rw [if_pos c,if_neg (by omega)]
   rfl
 · rw [if_neg c,if_pos (by omega),Option.map_some]
   congr 1
   simp only
   omega
theorem us_same {C C':Cu} {m m':Pm} {ms:List Pm} (h:UsOk C (m::ms)) {id:Int} (hm:hasI m' id ↔ hasI m id) (hc:C' id=C id):(C' id).map (·.2)=if cntI (m'::ms) id=0 then none else some ((cntI (m'::ms) id:Nat):Int):=by
 classical
 rw [hc,h id]
 by_cases c:hasI m id
 · rw [cntI_yes c,cntI_yes (hm.2 c)]
 · rw [cntI_no c,cntI_no (fun e=>c (hm.1 e))]
theorem UsOk.lo {C:Cu} {m:Pm} {ms:List Pm} (h:UsOk C (m::ms)) (hinj:∀i j id,m i=some id→m j=some id→i=j) (dn:Int→Prop):UsOk (loC C m dn) (loM m dn::ms):=by
 intro id
 by_cases c:∃k,dn k∧m k=Option.some id
 · obtain ⟨k,hk,hm⟩:=c
   have e:loC C m dn id=decU (C id):=by unfold loC;rw [if_pos ⟨k,hk,hm⟩]
   rw [e]
   refine us_less h ⟨k,hm⟩ ?_
   rintro ⟨i,hi⟩
   unfold loM at hi
   split at hi
   · cases hi
   · rename_i hn
     rw [hinj i k id hi hm] at hn
     exact hn hk
 · have e:loC C m dn id=C id:=by unfold loC;rw [if_neg c]
   refine us_same h ⟨?_,?_⟩ e
   · rintro ⟨i,hi⟩
     unfold loM at hi
     split at hi
     · cases hi
     · exact ⟨i,hi⟩
   · rintro ⟨i,hi⟩
     refine ⟨i,?_⟩
     unfold loM
     rw [if_neg (fun hd=>c ⟨i,hd,hi⟩)]
     exact hi
theorem UsOk.drop {C:Cu} {m:Pm} {ms:List Pm} (h:UsOk C (m::ms)) (hm:∀i,m i=Option.none):UsOk C ms:=fun id=>by
 classical
 rw [h id,cntI_no (by rintro ⟨i,hi⟩;rw [hm] at hi;cases hi)]
theorem UsOk.kp {C:Cu} {m:Pm} {ms:List Pm} (h:UsOk C ms) (hm:m∈ms):UsOk (kpC C m) (m::ms):=fun id=>by
 classical
 unfold kpC
 by_cases c:hasI m id
 · obtain ⟨p,hp,hu⟩:=h.has (cntI_pos hm c)
   have:=cntI_pos hm c
   rw [if_pos c,cntI_yes c,if_neg (by omega),hp,Option.map_some,Option.map_some]
   congr 1
   simp only
   rw [hu]
   rfl
 · rw [if_neg c,cntI_no c]
   exact h id
theorem UsOk.nil:UsOk (fun _=>Option.none) []:=fun id=>rfl
theorem UsOk.new {C:Cu} {ms:List Pm} (h:UsOk C ms):UsOk C ((fun _=>Option.none)::ms):=fun id=>by
 classical
 rw [cntI_no (by rintro ⟨i,hi⟩;cases hi)]
 exact h id
section
variable {C:Cu} {m:Pm} {ms:List Pm} {R:List Mk3} {N:Nat}
def dnS (R:List Mk3) (i:Int):Prop:=(mkM R i).isSome=true
theorem pl_new (h:MkOk C m R N) {e:Mk3} (he:e∈R):plC C m R (dnS R) (e.id:Int)=some (e.b,1)∧plM m R (dnS R) (e.p:Int)=some (e.id:Int):=by
 have hd:dnS R (e.p:Int):=by unfold dnS;rw [mkM_mem R h.pl e he];rfl
 unfold plC plM
 rw [if_pos ⟨e,he,rfl,hd⟩,if_pos hd,mkM_mem R h.pl e he,addC_mem C R h.ids e he]
 exact ⟨rfl,rfl⟩
theorem pl_off (h:MkOk C m R N) {i:Int} (hi:∀e∈R,(e.p:Int)≠i):plM m R (dnS R) i=m i:=by
 have hd:¬dnS R i:=by
  unfold dnS
  intro hs
  cases hc:mkM R i with
  |none=>rw [hc] at hs;cases hs
  | some j=>
    obtain ⟨e,he,h1,_⟩:=mkM_some R i j hc
    exact hi e he h1.symm
 unfold plM
 rw [if_neg hd]
theorem UsOk.pl (hu:UsOk C (m::ms)) (h:MkOk C m R N):UsOk (plC C m R (dnS R)) (plM m R (dnS R)::ms):=by
 classical
 intro id
 have hmk:∀i,mkM R i=Option.some id→∃e∈R,(e.id:Int)=id:=fun i hi=>by
  obtain ⟨e,he,_,h2⟩:=mkM_some R i id hi
  exact ⟨e,he,h2.symm⟩
 by_cases c1:∃e∈R,(e.id:Int)=id
 · obtain ⟨e,he,rfl⟩:=c1
   obtain ⟨h1,h2⟩:=pl_new h he
   have h0:cntI (m::ms) (e.id:Int)=0:=by
    by_cases c:cntI (m::ms) (e.id:Int)=0
    · exact c
    · obtain ⟨p,hp,_⟩:=hu.has (id:=(e.id:Int)) (by omega)
      have:=h.old _ p hp
      have:=h.new e he
      omega
   have h00:cntI ms (e.id:Int)=0:=by
    by_cases c:hasI m (e.id:Int)
    · rw [cntI_yes c] at h0;omega
    · rw [cntI_no c] at h0;exact h0
   rw [h1,cntI_yes ⟨_,h2⟩,h00,if_neg (by omega)]
   rfl
 · by_cases c2:∃k,dnS R k∧m k=Option.some id
   · have e:plC C m R (dnS R) id=decU (C id):=by
      unfold plC
      rw [if_neg (by rintro ⟨e,he,e2,_⟩;exact c1 ⟨e,he,e2⟩),if_pos c2]
     obtain ⟨k,hk,hm⟩:=c2
     rw [e]
     refine us_less hu ⟨k,hm⟩ ?_
     rintro ⟨i,hi⟩
     unfold plM at hi
     split at hi
     · exact c1 (hmk i hi)
     · rename_i hn
       rw [h.inj i k id hi hm] at hn
       exact hn hk
   · have e:plC C m R (dnS R) id=C id:=by
      unfold plC
      rw [if_neg (by rintro ⟨e,he,e2,_⟩;exact c1 ⟨e,he,e2⟩),if_neg c2]
      exact addC_old C R id fun y hy e=>c1 ⟨y,hy,e⟩
     refine us_same hu ⟨?_,?_⟩ e
     · rintro ⟨i,hi⟩
       unfold plM at hi
       split at hi
       · exact absurd (hmk i hi) c1
       · exact ⟨i,hi⟩
     · rintro ⟨i,hi⟩
       refine ⟨i,?_⟩
       unfold plM
       rw [if_neg (fun hd=>c2 ⟨i,hd,hi⟩)]
       exact hi
theorem pl_bytes (h:MkOk C m R N) {id:Int} (hid:id<N) {p:Bytes×Int} (hp:plC C m R (dnS R) id=some p):∃u,C id=some (p.1,u):=by
 unfold plC at hp
 rw [if_neg (by rintro ⟨e,he,e2,_⟩;have:=h.new e he;omega)] at hp
 have hold:=addC_old C R id fun y hy e=>by have:=h.new y hy;omega
 split at hp
 · cases hc:C id with
   |none=>rw [hc] at hp;cases hp
   | some q=>
     obtain ⟨b,u⟩:=q
     rw [hc,decU] at hp
     split at hp
     · injection hp with e;exact ⟨u,by rw [←e]⟩
     · cases hp
 · rw [hold] at hp
   exact ⟨p.2,hp⟩
theorem lo_bytes {dn:Int→Prop} {id:Int} {p:Bytes×Int} (hp:loC C m dn id=some p):∃u,C id=some (p.1,u):=by
 unfold loC at hp
 split at hp
 · cases hc:C id with
   |none=>rw [hc] at hp;cases hp
   | some q=>
     obtain ⟨b,u⟩:=q
     rw [hc,decU] at hp
     split at hp
     · injection hp with e;exact ⟨u,by rw [←e]⟩
     · cases hp
 · exact ⟨p.2,hp⟩
theorem kp_bytes {id:Int} {p:Bytes×Int} (hp:kpC C m id=some p):∃u,C id=some (p.1,u):=by
 unfold kpC at hp
 split at hp
 · cases hc:C id with
   |none=>rw [hc] at hp;cases hp
   | some q=>
     rw [hc,Option.map_some] at hp
     injection hp with e
     exact ⟨q.2,by rw [←e]⟩
 · exact ⟨p.2,hp⟩
theorem memF_same {C C':Cu} {m:Pm} {z:Nat} (h:∀i id,m i=some id→∃p u,C' id=some p∧C id=some (p.1,u)):memF z C' m=memF z C m:=by
 funext i
 unfold memF
 cases hm:m (i:Nat) with
 |none=>rfl
 | some id=>
   obtain ⟨p,u,h1,h2⟩:=h _ id hm
   simp only [h1,h2]
theorem memF_pl {z nx:Nat} {ps:List Pt} {bs:Bytes} (hl:∀i,(memF z C m i).length=z) (hp:ps.Pairwise (fun x y=>x.p<y.p)) (hin:∀x∈ps,x.o+x.n≤z) (hb:bs.length=sumN ps) (h:MkOk C m (mkF z C m nx ps bs) N)
 (hu:UsOk C (m::ms)):memF z (plC C m (mkF z C m nx ps bs) (dnS (mkF z C m nx ps bs))) (plM m (mkF z C m nx ps bs) (dnS (mkF z C m nx ps bs)))=stF (memF z C m) ps bs:=by
 funext i
 obtain ⟨g1,g2⟩:=mkF_mem_st z C m hl ps nx bs hp hin hb i
 by_cases c:∃e∈mkF z C m nx ps bs,e.p=i
 · obtain ⟨e,he,rfl⟩:=c
   obtain ⟨h1,h2⟩:=pl_new h he
   rw [←g1 e he rfl]
   unfold memF
   simp only [h2,h1]
 · have hne:∀e∈mkF z C m nx ps bs,e.p≠i:=fun e he e2=>c ⟨e,he,e2⟩
   rw [(g2 hne).1]
   have hpm:=pl_off h (i:=(i:Int)) (fun e he e2=>hne e he (by omega))
   unfold memF
   rw [hpm]
   cases hm:m (i:Nat) with
   |none=>rfl
   | some id=>
     obtain ⟨p,hp⟩:=hu.at jM hm
     have hid:=h.old id p hp
     have hus:=hu.pl h
     have:∃p',plC C m (mkF z C m nx ps bs) (dnS (mkF z C m nx ps bs)) id=some p':=hus.at jM (by rw [hpm];exact hm)
     obtain ⟨p',hp'⟩:=this
     obtain ⟨u,e⟩:=pl_bytes h hid hp'
     simp only [hp',e]
theorem dom_pl {z nx:Nat} {ps:List Pt} {bs:Bytes} (hl:∀i,(memF z C m i).length=z) (hp:ps.Pairwise (fun x y=>x.p<y.p)) (hin:∀x∈ps,x.o+x.n≤z) (hb:bs.length=sumN ps) (h:MkOk C m (mkF z C m nx ps bs) N) (i:Int):
 (plM m (mkF z C m nx ps bs) (dnS (mkF z C m nx ps bs)) i).isSome=true ↔ (m i).isSome=true∨∃x∈ps,(x.p:Int)=i:=by
 by_cases c:∃e∈mkF z C m nx ps bs,(e.p:Int)=i
 · obtain ⟨e,he,rfl⟩:=c
   rw [(pl_new h he).2]
   obtain ⟨_,x,hx,e1⟩:=mkF_mem z C m ps _ _ e he
   exact ⟨fun _=>.inr ⟨x,hx,by rw [e1]⟩,fun _=>rfl⟩
 · rw [pl_off h (fun e he e2=>c ⟨e,he,e2⟩)]
   refine ⟨.inl,?_⟩
   rintro (h1|⟨x,hx,rfl⟩)
   · exact h1
   · obtain ⟨g1,g2⟩:=mkF_mem_st z C m hl ps nx bs hp hin hb x.p
     exact (g2 fun e he e2=>c ⟨e,he,by rw [e2]⟩).2 ⟨x,hx,rfl⟩
theorem inj_pl (h:MkOk C m R N) (i j id:Int) (h1:plM m R (dnS R) i=some id) (h2:plM m R (dnS R) j=some id):i=j:=by
 have key:∀e∈R,∀y∈R,e.id=y.id→e=y:=by
  intro e he y hy hid
  obtain ⟨i,hi⟩:=List.mem_iff_getElem?.1 hy
  obtain ⟨j,hj⟩:=List.mem_iff_getElem?.1 he
  have il:=(jS.1 hi)
  have jl:=(jS.1 hj)
  rcases Nat.lt_trichotomy i j with g|g|g
  · have:=List.pairwise_iff_getElem.1 h.ids i j il.1 jl.1 g
    rw [il.2,jl.2] at this
    omega
  · subst g;rw [hi] at hj;exact (Option.some.inj hj).symm
  · have:=List.pairwise_iff_getElem.1 h.ids j i jl.1 il.1 g
    rw [il.2,jl.2] at this
    omega
 unfold plM at h1 h2
 split at h1
 · obtain ⟨e,he,e1,e2⟩:=mkM_some R i id h1
   split at h2
   · obtain ⟨y,hy,y1,y2⟩:=mkM_some R j id h2
     rw [e1,y1,key e he y hy (by omega)]
   · have:=h.id_lt h2
     have:=h.new e he
     omega
 · split at h2
   · obtain ⟨y,hy,y1,y2⟩:=mkM_some R j id h2
     have:=h.id_lt h1
     have:=h.new y hy
     omega
   · exact h.inj i j id h1 h2
theorem inj_lo {dn:Int→Prop} (hinj:∀i j id,m i=some id→m j=some id→i=j) (i j id:Int) (h1:loM m dn i=some id) (h2:loM m dn j=some id):i=j:=by
 unfold loM at h1 h2
 split at h1
 · cases h1
 · split at h2
   · cases h2
   · exact hinj i j id h1 h2
end
end Go.Proofs.YtlhfjaagkgengaaGreat
