/- A space: Store (facts). A space: Store, what its first loop keeps. -/
import Derived.Test.YtlhfjaagkgengaaGreatPC19
namespace Go.Proofs.YtlhfjaagkgengaaGreat
open Go.RowKit Go.Maps
set_option linter.unusedVariables false
set_option linter.unusedSimpArgs false
theorem spF_inv {m:Int→Option Int} {key val:Value} (h:spF m key=some val):∃k i,key=.int .i64 k∧m k=some i∧val=.int .i64 i:=by
 unfold spF at h
 cases hk:intOfV key with
 |none=>rw [hk] at h;cases h
 | some k=>
   rw [hk] at h
   simp only [Option.bind_some] at h
   cases hm:m k with
   |none=>rw [hm] at h;cases h
   |some i=>rw [hm] at h;cases h;exact ⟨k,i,intOfV_inv hk,hm,rfl⟩
section
variable {σ:Type} {K:SnkF σ} {M:Snk K} {P:PSnk K} {w w' w1 w2 w3 wr:World} {d:PD} {t t' t1 t2 t3:PSt σ} {C C' C1:Cu} {k k1 k2:Nat} {D:SpD} {A:Option Addr} {cap n:Nat} {L:List Rg} {m m1:Int→Option Int}
theorem SpAt.putM (h:SpAt w D A cap L m n) {i id:Int} (hi: -9223372036854775808≤i∧i≤9223372036854775807):
 ∃w',(Instr.mapUpdate 112 (.map (some D.Mm)) (.int .i64 i) (.int .i64 id)).run Tryz.prog w=.ok () w'∧SpAt w' D A cap L (updM m i (some id)) (if (m i).isSome then n else n+1)∧Off (· =D.Mm) w w':=by
 obtain ⟨w',hr,hm,ho⟩:=MapIs.put h.mp intKeyed Tryz.underlying112 (val:=.int .i64 id) (keyOf_int_mk Tryz.underlying3 (int_wf hi))
 rw [spF_put,spF_at,Option.isSome_map] at hm
 have hl:=h.ltX
 have hX:¬D.X=D.Mm:=h.neM
 exact ⟨w',hr,⟨fun j hj=>(ho.cell (p:=⟨D.X,j,none⟩) hl hX).trans (h.cc j hj),(ho.cell (p:=⟨D.X,9,none⟩) hl hX).trans h.c9,(ho.cell (p:=⟨D.X,10,none⟩) hl hX).trans h.c10,(ho.cell (p:=⟨D.X,11,none⟩) hl hX).trans h.c11,
  fun k=>(ho.frozen (p:=⟨D.X,k,none⟩) hl hX).trans (h.fz k),h.row.off ho (fun k e e2=>by subst e;exact h.neA.2 e2),hm,h.neM,h.neA⟩,ho⟩
theorem SpAt.delM (h:SpAt w D A cap L m n) {i:Int} (hi: -9223372036854775808≤i∧i≤9223372036854775807) (ty:TypeId):
 ∃w',(Builtin.delete_ #[112,3] ty #[.map (some D.Mm),.int .i64 i]).run Tryz.prog w=.ok (.tuple #[]) w'∧SpAt w' D A cap L (updM m i none) (if (m i).isSome then n-1 else n)∧Off (· =D.Mm) w w':=by
 obtain ⟨w',hr,hm,ho⟩:=MapIs.del h.mp intKeyed Tryz.underlying112 (keyOf_int_mk Tryz.underlying3 (int_wf hi)) ty
 rw [spF_del,spF_at,Option.isSome_map] at hm
 have hl:=h.ltX
 have hX:¬D.X=D.Mm:=h.neM
 exact ⟨w',hr,⟨fun j hj=>(ho.cell (p:=⟨D.X,j,none⟩) hl hX).trans (h.cc j hj),(ho.cell (p:=⟨D.X,9,none⟩) hl hX).trans h.c9,(ho.cell (p:=⟨D.X,10,none⟩) hl hX).trans h.c10,(ho.cell (p:=⟨D.X,11,none⟩) hl hX).trans h.c11,
  fun k=>(ho.frozen (p:=⟨D.X,k,none⟩) hl hX).trans (h.fz k),h.row.off ho (fun k e e2=>by subst e;exact h.neA.2 e2),hm,h.neM,h.neA⟩,ho⟩
theorem SS.pgM (h:SS M P w d t C k D A cap L m n) (hs:SpAt w3 D A cap L m1 k2) (hv:Pv M P w3 d t3 C1 k1) (hx:Nx P w w2 d t t3) (hh:∀i id,m1 i=some id→∃p,C1 id=some p):SS M P w3 d t3 C1 k1 D A cap L m1 k2:=
 ⟨hs,hv,h.ok,h.q,h.z,fun k hk=>(hx.keep (h.sp.lt hk) (h.sep k hk)).2,hh,h.len⟩
variable {R:List Mk3} {N:Nat} {dn dn':Int→Prop} {e:Mk3}
def KpPost (M:Snk K) (P:PSnk K) (w1:World) (d:PD) (t1:PSt σ) (C:Cu) (k:Nat) (D:SpD) (A:Option Addr) (cap:Nat) (L:List Rg) (m:Int→Option Int) (R:List Mk3) (dn':Int→Prop) (m1:Int→Option Int) (n1:Nat) (e:Mk3) (x:Ending) (w3:World):Prop:=
 x =.returned (.tuple #[])∧SpAt w3 D A cap L m1 n1∧∃t3 w4 n',Nx P w1 w3 d t1 t3∧t3.nx=t1.nx∧(Instr.mapUpdate 112 (.map (some D.Mm)) (.int .i64 (e.p:Int)) (.int .i64 (e.id:Int))).run Tryz.prog w3=.ok () w4∧
   SS M P w4 d t3 (plC C m R dn') k D A cap L (plM m R dn') n'∧Off (· =D.Mm) w3 w4
theorem pl_has (ho:MkOk C m R N):∀i id,plM m R dn i=some id→∃p,plC C m R dn id=some p:=by
 intro i id hi
 unfold plM at hi
 split at hi
 · rename_i hd
   obtain ⟨e,he,rfl,rfl⟩:=mkM_some R i id hi
   unfold plC
   rw [if_pos ⟨e,he,rfl,hd⟩,addC_mem C R ho.ids e he]
   exact ⟨_,rfl⟩
 · rename_i hd
   rw [(ho.at_old hi hd).1]
   exact ho.has i id hi
theorem st_keep (ho:MkOk C m R N) (he:e∈R) (hd:¬dn (e.p:Int)) (hdn:∀i,dn' i ↔ dn i∨i=(e.p:Int)) (hp:e.p≤300000000) {n1:Nat}
 (h:SS M P w1 d t1 (plC C m R dn) k D A cap L (plM m R dn) n1) (hx:Nx P w1 w2 d t1 t2) (hx1:t2.nx=t1.nx) (hsp:SpAt w2 D A cap L (plM m R dn) n1)
 (hv:Pv M P w2 d t2 (letC (plC C m R dn) C (m (e.p:Int))) k):
 Calls Tryz.prog 66 #[.pointer (some ⟨d.Q,0,none⟩),.int .i64 (e.id:Int)] w2 (KpPost M P w1 d t1 C k D A cap L m R dn' (plM m R dn) n1 e):=by
 have hC:(letC (plC C m R dn) C (m (e.p:Int))) (e.id:Int)=some (e.b,0):=by
  cases hm:m (e.p:Int) with
  |none=>exact ho.at_new he hd
  | some o=>
    rw [show letC (plC C m R dn) C (some o)=updU (plC C m R dn) o (decU (C o)) from rfl,updU_ne _ _ (fun e2=>by have:=ho.id_lt hm;have:=ho.new e he;omega)]
    exact ho.at_new he hd
 refine (pv_keep hv hC (by omega)).mono ?_
 rintro x w3 ⟨rfl,t3,hv3,hx3,e31,e32⟩
 have hsp3:=hsp.off hx3.off (fun k e2 hk=>(hx.keep (h.sp.lt hk) (h.sep k hk)).2 e2)
 obtain ⟨g1,g2⟩:=ho.step he hd hdn rfl
 obtain ⟨w4,hr,hs4,ho4⟩:=hsp3.putM (i:=(e.p:Int)) (id:=(e.id:Int)) (by omega)
 rw [←g2] at hs4
 have hx13:=hx.trans hx3
 have hv4:=hv3.offL ho4 (fun b e2 hb=>by subst e2;exact (hx13.keep (h.sp.lt (.inr (.inl rfl))) (h.sep _ (.inr (.inl rfl)))).2 hb)
 rw [show (0:Int)+1=1 from rfl,←g1] at hv4
 refine ⟨rfl,hsp3,t3,w4,_,hx13,e31.trans hx1,hr,h.pgM hs4 hv4 hx13 (pl_has ho),ho4⟩
theorem st_let (ho:MkOk C m R N) (he:e∈R) (hd:¬dn (e.p:Int)) (hdn:∀i,dn' i ↔ dn i∨i=(e.p:Int)) (hp:e.p≤300000000) {n1:Nat} {o:Int} (hm:m (e.p:Int)=some o) (hu:∀b u,C o=some (b,u)→0≤u∧u≤1000000)
 (h:SS M P w1 d t1 (plC C m R dn) k D A cap L (plM m R dn) n1):
 Calls Tryz.prog 65 #[.pointer (some ⟨d.Q,0,none⟩),.int .i64 o] w1 fun x w2=>x=.returned (.tuple #[])∧SpAt w2 D A cap L (plM m R dn) n1∧
  (∃t2,Nx P w1 w2 d t1 t2)∧Calls Tryz.prog 66 #[.pointer (some ⟨d.Q,0,none⟩),.int .i64 (e.id:Int)] w2 (KpPost M P w1 d t1 C k D A cap L m R dn' (plM m R dn) n1 e):=by
 obtain ⟨⟨b,u⟩,hp2⟩:=ho.has _ _ hm
 have ha:=ho.at_old hm hd
 refine (pv_let h.pv (ha.1.trans hp2) (hu b u hp2)).mono ?_
 rintro x w2 ⟨rfl,t2,hv2,hx2,e21,e22⟩
 have hsp2:=h.sp.off hx2.off (fun k e2 hk=>h.sep k hk e2)
 refine ⟨rfl,hsp2,⟨t2,hx2⟩,st_keep ho he hd hdn hp h hx2 e21 hsp2 ?_⟩
 rw [hm]
 rw [ha.1] at hv2
 exact hv2
open Classical in
noncomputable def drC (C:Cu) (l:List Mk3) (dn:Int→Prop):Cu:=fun id=>if ∃e∈l,(e.id:Int)=id∧dn (e.p:Int) then C id else addC C l id
theorem drC_none (C:Cu) (l:List Mk3):drC C l (fun _=>False)=addC C l:=by
 funext id
 unfold drC
 rw [if_neg (by rintro ⟨e,_,_,h⟩;exact h)]
theorem drC_all (C:Cu) (l:List Mk3) (h:∀e∈l,dn (e.p:Int)):drC C l dn=C:=by
 funext id
 unfold drC
 split
 · rfl
 · rename_i hn
   exact addC_old C l id fun e he e2=>hn ⟨e,he,e2,h e he⟩
theorem dr_drop {l:List Mk3} (ho:MkOk C m l N) (he:e∈l) (hd:¬dn (e.p:Int)) (hdn:∀i,dn' i ↔ dn i∨i=(e.p:Int)) {n1:Nat} (h:SS M P w1 d t1 (drC C l dn) k D A cap L m n1):
 Calls Tryz.prog 64 #[.pointer (some ⟨d.Q,0,none⟩),.int .i64 (e.id:Int)] w1 fun x w2=>x=.returned (.int .i64 0)∧∃t2,Nx P w1 w2 d t1 t2∧t2.nx=t1.nx∧SS M P w2 d t2 (drC C l dn') k D A cap L m n1:=by
 have huniq:∀y∈l,(y.id:Int)=(e.id:Int)→y=e:=by
  intro y hy hid
  obtain ⟨i,hi⟩:=List.mem_iff_getElem?.1 hy
  obtain ⟨j,hj⟩:=List.mem_iff_getElem?.1 he
  have il:=(jS.1 hi)
  have jl:=(jS.1 hj)
  rcases Nat.lt_trichotomy i j with g|g|g
  · have:=List.pairwise_iff_getElem.1 ho.ids i j il.1 jl.1 g
    rw [il.2,jl.2] at this
    omega
  · subst g;rw [hi] at hj;exact Option.some.inj hj
  · have:=List.pairwise_iff_getElem.1 ho.ids j i jl.1 il.1 g
    rw [il.2,jl.2] at this
    omega
 have hplace:∀y∈l,y.p=e.p→y=e:=by
  intro y hy hid
  obtain ⟨i,hi⟩:=List.mem_iff_getElem?.1 hy
  obtain ⟨j,hj⟩:=List.mem_iff_getElem?.1 he
  have il:=(jS.1 hi)
  have jl:=(jS.1 hj)
  rcases Nat.lt_trichotomy i j with g|g|g
  · have:=List.pairwise_iff_getElem.1 ho.pl i j il.1 jl.1 g
    rw [il.2,jl.2] at this
    omega
  · subst g;rw [hi] at hj;exact Option.some.inj hj
  · have:=List.pairwise_iff_getElem.1 ho.pl j i jl.1 il.1 g
    rw [il.2,jl.2] at this
    omega
 have hC:drC C l dn (e.id:Int)=some (e.b,0):=by
  unfold drC
  rw [if_neg (by rintro ⟨y,hy,hid,hd2⟩;rw [huniq y hy hid] at hd2;exact hd hd2),addC_mem C l ho.ids e he]
 have hnone:C (e.id:Int)=none:=by
  cases hc:C (e.id:Int) with
  |none=>rfl
  |some p=>have:=ho.old _ p hc;have:=ho.new e he;omega
 have e5:updU (drC C l dn) (e.id:Int) none=drC C l dn':=by
  funext id
  by_cases h1:id=(e.id:Int)
  · rw [h1,updU_same]
    unfold drC
    rw [if_pos ⟨e,he,rfl,(hdn _).2 (.inr rfl)⟩,hnone]
  · rw [updU_ne _ _ h1]
    unfold drC
    by_cases c1:∃y∈l,(y.id:Int)=id∧dn (y.p:Int)
    · rw [if_pos c1]
      obtain ⟨y,hy,h2,h3⟩:=c1
      rw [if_pos ⟨y,hy,h2,(hdn _).2 (.inl h3)⟩]
    · rw [if_neg c1,if_neg]
      rintro ⟨y,hy,h2,h3⟩
      rcases (hdn _).1 h3 with g|g
      · exact c1 ⟨y,hy,h2,g⟩
      · exact h1 (by rw [←h2,hplace y hy (by omega)])
 refine (pv_drop h.pv hC).mono ?_
 rintro x w2 ⟨rfl,t2,hv2,hx2,e21,e22⟩
 rw [e5] at hv2
 refine ⟨rfl,t2,hx2,e21,h.pg hv2 hx2 fun i id hi=>?_⟩
 have:=ho.id_lt hi
 unfold drC
 split
 · exact ho.has i id hi
 · rw [addC_old C l id fun y hy=>by have:=ho.new y hy;omega]
   exact ho.has i id hi
end
def sumN:List Pt→Nat
 |[]=>0
 |x::l=>x.n+sumN l
theorem partsN_sumN (z:Nat) (hz:0<z):∀(f a n:Nat),n≤f→sumN (partsN z f a n)=n
 | 0,a,n,h=>by
   obtain rfl:n=0:=by omega
   rfl
 | f + 1,a,n,h=>by
   have hm:=Nat.mod_lt a hz
   unfold partsN
   split
   · rename_i h0;rw [h0];rfl
   · rw [sumN,partsN_sumN z hz f _ _ (by omega)]
     simp only
     omega
structure StR {σ:Type} {K:SnkF σ} (M:Snk K) (P:PSnk K) (w wr:World) (d:PD) (t t':PSt σ) (C:Cu) (k:Nat) (D:SpD) (A:Option Addr) (cap:Nat) (L:List Rg) (m:Int→Option Int) (n:Nat) (Bm:Nat) (Bp:Option Addr) (ps:List Pt) (R:List Mk3) (i:Nat) (l:List Mk3) (cnt:Nat) (bA:Option Addr) (bn bc:Nat) (bs:Bytes):Prop where
 ss:SS M P wr d t' (addC C l) (k+2*(ps.length-i)) D A cap L m n
 nx:Nx P w wr d t t'
 e1:t'.nx=t.nx+l.length
 mp:MapIs Tryz.prog 3 wr Bm (spF (mkM l)) cnt
 bm:w.heap.size≤Bm∧¬Own d t' Bm
 row:RgAt wr Bp (ps.map Pt.rg)
 rO:∀g,rgO Bp ps.length g→w.heap.size≤g∧¬Own d t' g∧g≠Bm
 sb:SBy wr bA bn bs
 cb:bn≤bc
 vb:VIn (fun g=>g<w.heap.size∧¬Own d t' g) (.slice bA bn bc)
 hR:l ++ mkF D.pg C m (t.nx+l.length) (ps.drop i) bs=R
 hn:bn=sumN (ps.drop i)
 le:l.length≤i
structure Nxs {σ:Type} {K:SnkF σ} (P:PSnk K) (S:Nat→Prop) (w w':World) (d:PD) (t t':PSt σ):Prop where
 off:Off (fun k=>Own d t k∨S k) w w'
 own:∀k,Own d t' k→Own d t k∨w.heap.size≤k
 rm:P.room t.s<0→P.room t'.s<0
section
variable {σ:Type} {K:SnkF σ} {P:PSnk K} {S S':Nat→Prop} {w w' w1 w2:World} {d:PD} {t t' t1 t2:PSt σ}
theorem Nxs.refl:Nxs P S w w d t t:=⟨Off.refl _ _,fun _=>.inl,id⟩
theorem Nx.nxs (h:Nx P w w' d t t'):Nxs P S w w' d t t':=⟨h.off.mono fun _=>.inl,h.own,h.rm⟩
theorem Nxs.mono (h:Nxs P S w w' d t t') (hS:∀k,S k→S' k):Nxs P S' w w' d t t':=⟨h.off.mono fun k e=>e.imp id (hS k),h.own,h.rm⟩
theorem Nxs.up (h:Nxs P S w w1 d t t') (hb:Below w1.heap.size w1 w2):Nxs P S w w2 d t t':=⟨h.off.step hb,h.own,h.rm⟩
theorem Nxs.offS (h:Nxs P S w w1 d t t') (ho:Off S' w1 w2) (hS:∀k,S' k→S k∨w.heap.size≤k):Nxs P S w w2 d t t':=
 ⟨h.off.late ho (fun i hi e=>by rcases hS i e with e|e;exact .inr e;omega),h.own,h.rm⟩
theorem Nxs.trans (h:Nxs P S w w1 d t t1) (g:Nxs P S w1 w2 d t1 t2):Nxs P S w w2 d t t2:=by
 refine ⟨h.off.late g.off (fun i hi ho=>?_),fun i ho=>?_,fun e=>g.rm (h.rm e)⟩
 · rcases ho with e|e
   · rcases h.own i e with e|e
     · exact .inl e
     · omega
   · exact .inr e
 · rcases g.own i ho with e|e
   · exact h.own i e
   · have:=h.off.size;exact .inr (by omega)
theorem Nxs.keep (h:Nxs P S w w' d t t') {b:Nat} (hb:b<w.heap.size) (hn:¬Own d t b):b<w'.heap.size∧¬Own d t' b:=
 ⟨Nat.lt_of_lt_of_le hb h.off.size,fun e=>(h.own b e).elim hn (fun e=>by omega)⟩
end
section
variable {σ:Type} {K:SnkF σ} {M:Snk K} {P:PSnk K} {w w' w1 w2 w3 wr:World} {d:PD} {t t' t1 t2 t3:PSt σ} {C C' C1:Cu} {k k1 k2:Nat} {D:SpD} {A:Option Addr} {cap n:Nat} {L:List Rg} {m m1:Int→Option Int}
variable {Bm i cnt bn bc:Nat} {Bp bA:Option Addr} {ps:List Pt} {R l:List Mk3} {bs:Bytes}
theorem StR.up (h:StR M P w w1 d t t1 C k D A cap L m n Bm Bp ps R i l cnt bA bn bc bs) (hb:Below w1.heap.size w1 w2):StR M P w w2 d t t1 C k D A cap L m n Bm Bp ps R i l cnt bA bn bc bs:=
 ⟨h.ss.up hb,h.nx.up hb,h.e1,h.mp.off (S:=fun _=>False) (Off.of_below hb) id,h.bm,h.row.up hb,h.rO,h.sb.up hb,h.cb,h.vb,h.hR,h.hn,h.le⟩
theorem StR.rest (h:StR M P w w1 d t t1 C k D A cap L m n Bm Bp ps R i l cnt bA bn bc bs) {x:Pt} (hx:ps[i]? =some x) (hp:1≤x.n):ps.drop i=x::ps.drop (i+1)∧x.n≤bn∧bn-x.n=sumN (ps.drop (i+1))∧∃g o,bA=some ⟨g,o,none⟩∧SBy w1 bA x.n (bs.take x.n)∧VIn (fun g=>g<w.heap.size∧¬Own d t1 g) (.slice bA x.n bc)∧
 SBy w1 (some ⟨g,o+x.n,none⟩) (bn-x.n) (bs.drop x.n)∧VIn (fun g=>g<w.heap.size∧¬Own d t1 g) (.slice (some ⟨g,o+x.n,none⟩) (bn-x.n) (bc-x.n)):=by
 have hi:=(jS.1 hx).1
 have hd:ps.drop i=x::ps.drop (i+1):=by
  rw [List.drop_eq_getElem_cons hi]
  congr 1
  exact (jS.1 hx).2
 have hn:=h.hn
 rw [hd,sumN] at hn
 obtain ⟨g,o,hA,hg,hc⟩:=h.sb.2 (by omega)
 have hv:=h.vb g o bn bc (by rw [hA]) (by omega)
 have hs:=h.sb
 rw [hA] at hs
 refine ⟨hd,by omega,by omega,g,o,hA,?_,fun g' o' n' c' e _=>?_,?_,fun g' o' n' c' e _=>?_⟩
 · rw [hA];exact hs.take (by omega)
 · rw [hA] at e;cases e;exact hv
 · have:=hs.part x.n bn (by omega) jN
   rwa [List.take_of_length_le (by simp [hs.1])] at this
 · cases e;exact hv
theorem StR.skip (hK:K.Good) (h:StR M P w w1 d t t1 C k D A cap L m n Bm Bp ps R i l cnt bA bn bc bs) {x:Pt} (hx:ps[i]? =some x) (hsk:skipB C m x (bs.take x.n)=true) (hs:SS M P w2 d t2 (addC C l) k2 D A cap L m n) (hk:k+2*(ps.length-(i+1))≤k2) (hn:Nx P w1 w2 d t1 t2) (he:t2.nx=t1.nx) {b2:Option Addr} {n2 c2:Nat} (hb2:SBy w1 b2 n2 (bs.drop x.n)) (hc2:n2≤c2) (hn2:n2=sumN (ps.drop (i+1))) (hv2:VIn (fun g=>g<w.heap.size∧¬Own d t1 g) (.slice b2 n2 c2)):
 StR M P w w2 d t t2 C k D A cap L m n Bm Bp ps R (i+1) l cnt b2 n2 c2 (bs.drop x.n):=by
 have hi:=(jS.1 hx).1
 have hd:ps.drop i=x::ps.drop (i+1):=by
  rw [List.drop_eq_getElem_cons hi]
  congr 1
  exact (jS.1 hx).2
 have hwl:=h.nx.off.size
 refine ⟨hs.less hK hk,h.nx.trans hn,he.trans h.e1,h.mp.off hn.off h.bm.2,⟨h.bm.1,(hn.keep h.mp.lt h.bm.2).2⟩,h.row.off hn.off (fun g e e2=>(h.rO g (by simpa using e2)).2.1 e),fun g hg=>?_,?_,hc2,fun g o n' c' e hp=>?_,?_,hn2,Nat.le_succ_of_le h.le⟩
 · obtain ⟨a,b,c⟩:=h.rO g hg
   exact ⟨a,(hn.keep (h.row.lt (by simpa using hg)) b).2,c⟩
 · rcases Nat.eq_zero_or_pos n2 with h0|h0
   · subst h0
     have:bs.drop x.n=[]:=List.eq_nil_of_length_eq_zero hb2.1
     rw [this]
     exact SBy.nil _ _
   · exact hb2.off hn.off fun g o e=>(hv2 g o n2 c2 (by rw [e]) h0).2
 · have:=hv2 g o n' c' e hp
   exact ⟨this.1,(hn.keep (by omega) this.2).2⟩
 · have hr:=h.hR
   rw [hd,mkF,if_pos hsk] at hr
   exact hr
theorem StR.more (hK:K.Good) (h:StR M P w w1 d t t1 C k D A cap L m n Bm Bp ps R i l cnt bA bn bc bs) {x:Pt} (hx:ps[i]? =some x) (hp:x.p≤300000000) (hsk:skipB C m x (bs.take x.n)=false) (hs:SS M P w2 d t2 (addC C (l ++ [⟨x.p,t.nx+l.length,setB (memF D.pg C m x.p) x.o (bs.take x.n)⟩])) k2 D A cap L m n) (hk:k+2*(ps.length-(i+1))≤k2) (hn:Nx P w1 w2 d t1 t2) (he:t2.nx=t1.nx+1) {b2:Option Addr} {n2 c2:Nat} (hb2:SBy w1 b2 n2 (bs.drop x.n)) (hc2:n2≤c2) (hn2:n2=sumN (ps.drop (i+1))) (hv2:VIn (fun g=>g<w.heap.size∧¬Own d t1 g) (.slice b2 n2 c2)) (hwl:∀g,spO D A L.length g→g<w.heap.size):
 ∃ w3 cnt',(Instr.mapUpdate 112 (.map (some Bm)) (.int .i64 (x.p:Nat)) (.int .i64 ((t1.nx:Nat):Int))).run Tryz.prog w2=.ok () w3∧Off (· =Bm) w2 w3∧
   StR M P w w3 d t t2 C k D A cap L m n Bm Bp ps R (i+1) (l ++ [⟨x.p,t.nx+l.length,setB (memF D.pg C m x.p) x.o (bs.take x.n)⟩]) cnt' b2 n2 c2 (bs.drop x.n):=by
 rw [h.e1]
 have hi:=(jS.1 hx).1
 have hd:ps.drop i=x::ps.drop (i+1):=by
  rw [List.drop_eq_getElem_cons hi]
  congr 1
  exact (jS.1 hx).2
 have hwz:=h.nx.off.size
 have hmp:=h.mp.off hn.off h.bm.2
 have hkB:=hn.keep h.mp.lt h.bm.2
 obtain ⟨w3,hr,hm3,ho3⟩:=MapIs.put hmp intKeyed Tryz.underlying112 (val:=.int .i64 ((t.nx+l.length:Nat):Int)) (keyOf_int_mk Tryz.underlying3 (int_wf (k:=((x.p:Nat):Int)) (by omega)))
 rw [spF_put] at hm3
 have e3:=mkM_snoc l ⟨x.p,t.nx+l.length,setB (memF D.pg C m x.p) x.o (bs.take x.n)⟩
 simp only at e3
 rw [←e3] at hm3
 have hrow2:=h.row.off hn.off (fun g e e2=>(h.rO g (by simpa using e2)).2.1 e)
 refine ⟨w3,_,hr,ho3,⟨(hs.less hK hk).offL ho3 (fun g e=>by rw [e];exact hkB.2) (fun g e hg=>by have:=hwl g hg;have:=h.bm.1;omega),(h.nx.trans hn).offN ho3 (fun g e=>by rw [e];exact h.bm.1),by rw [he,h.e1,List.length_append];simp;omega,hm3,⟨h.bm.1,hkB.2⟩,hrow2.off ho3 (fun g e e2=>(h.rO g (by simpa using e2)).2.2 e),fun g hg=>?_,?_,hc2,fun g o n' c' e hp=>?_,?_,hn2,by have:=h.le;simp;omega⟩⟩
 · obtain ⟨a,b,c⟩:=h.rO g hg
   exact ⟨a,(hn.keep (h.row.lt (by simpa using hg)) b).2,c⟩
 · rcases Nat.eq_zero_or_pos n2 with h0|h0
   · subst h0
     have:bs.drop x.n=[]:=List.eq_nil_of_length_eq_zero hb2.1
     rw [this]
     exact SBy.nil _ _
   · refine (hb2.off hn.off fun g o e=>(hv2 g o n2 c2 (by rw [e]) h0).2).off ho3 fun g o e hg=>?_
     have:=(hv2 g o n2 c2 (by rw [e]) h0).1
     have:=h.bm.1
     omega
 · have:=hv2 g o n' c' e hp
   exact ⟨this.1,(hn.keep (by omega) this.2).2⟩
 · have hr:=h.hR
   rw [hd,mkF,if_neg (by rw [hsk];decide)] at hr
   rw [List.append_assoc,List.length_append,List.length_singleton,List.singleton_append,←Nat.add_assoc]
   exact hr
def dnL (R:List Mk3) (left:Value→Prop) (i:Int):Prop:=(mkM R i).isSome=true∧¬left (.int .i64 i)
theorem dnL_none (R:List Mk3):dnL R (fun _=>True)=fun _=>False:=by
 funext i
 simp [dnL]
theorem dnL_step {R:List Mk3} {left:Value→Prop} {p id:Int} (hm:mkM R p=some id):∀i,dnL R (fun x=>left x∧x≠.int .i64 p) i ↔ dnL R left i∨i=p:=by
 intro i
 unfold dnL
 constructor
 · rintro ⟨h1,h2⟩
   by_cases h3:left (.int .i64 i)
   · right
     by_cases h4:(Value.int .i64 i)=.int .i64 p
     · injection h4
     · exact absurd ⟨h3,h4⟩ h2
   · exact .inl ⟨h1,h3⟩
 · rintro (⟨h1,h2⟩|rfl)
   · exact ⟨h1,fun h=>h2 h.1⟩
   · exact ⟨by rw [hm];rfl,fun h=>h.2 rfl⟩
theorem dnL_end {R:List Mk3} {left:Value→Prop} (h:∀key v,spF (mkM R) key=some v→¬left key):dnL R left=fun i=>(mkM R i).isSome=true:=by
 funext i
 unfold dnL
 refine propext ⟨fun h=>h.1,fun hs=>⟨hs,?_⟩⟩
 cases hm:mkM R i with
 |none=>rw [hm] at hs;cases hs
 |some id=>exact h (.int .i64 i) (.int .i64 id) (by rw [spF_at,hm];rfl)
structure StL {σ:Type} {K:SnkF σ} (M:Snk K) (P:PSnk K) (w wr:World) (d:PD) (t t':PSt σ) (C:Cu) (k:Nat) (D:SpD) (A:Option Addr) (cap:Nat) (L:List Rg) (m:Int→Option Int) (n':Nat) (Bm Br:Nat) (R:List Mk3) (left:Value→Prop) (cnt:Nat):Prop where
 ss:SS M P wr d t' (plC C m R (dnL R left)) k D A cap L (plM m R (dnL R left)) n'
 nx:Nxs P (· =D.Mm) w wr d t t'
 e1:t'.nx=t.nx+R.length
 it:ItIs Tryz.prog 3 wr Bm Br (spF (mkM R)) left cnt
 bm:(w.heap.size≤Bm∧¬Own d t' Bm)∧w.heap.size≤Br∧¬Own d t' Br
 ne:Bm≠Br
structure StD {σ:Type} {K:SnkF σ} (M:Snk K) (P:PSnk K) (w wr:World) (d:PD) (t t':PSt σ) (C:Cu) (k:Nat) (D:SpD) (A:Option Addr) (cap:Nat) (L:List Rg) (m:Int→Option Int) (n:Nat) (Bm Br:Nat) (l:List Mk3) (left:Value→Prop) (cnt nb:Nat):Prop where
 ss:SS M P wr d t' (drC C l (dnL l left)) k D A cap L m n
 nx:Nx P w wr d t t'
 e1:t'.nx≤nb
 it:ItIs Tryz.prog 3 wr Bm Br (spF (mkM l)) left cnt
 bm:(w.heap.size≤Bm∧¬Own d t' Bm)∧w.heap.size≤Br∧¬Own d t' Br
 ne:Bm≠Br
def SrPost (M:Snk K) (P:PSnk K) (w:World) (d:PD) (t:PSt σ) (C:Cu) (k:Nat) (D:SpD) (A:Option Addr) (cap:Nat) (L:List Rg) (m:Int→Option Int) (n:Nat) (at_:Int) (bs:Bytes) (e:Ending) (w':World):Prop:=
 ∃ t', Nxs P (· =D.Mm) w w' d t t'∧
   ((checkF D L at_ bs.length 2≠0∧e=.returned (.int .i64 (checkF D L at_ bs.length 2))∧SS M P w' d t' C k D A cap L m n∧t'.nx=t.nx)∨
    (checkF D L at_ bs.length 2=0∧e=.returned (.int .i64 0)∧t'.nx=t.nx+(mkF D.pg C m t.nx (partsL D.pg at_.toNat bs.length) bs).length∧∃n',
     SS M P w' d t' (plC C m (mkF D.pg C m t.nx (partsL D.pg at_.toNat bs.length) bs) (fun i=>(mkM (mkF D.pg C m t.nx (partsL D.pg at_.toNat bs.length) bs) i).isSome=true)) k D A cap L
      (plM m (mkF D.pg C m t.nx (partsL D.pg at_.toNat bs.length) bs) (fun i=>(mkM (mkF D.pg C m t.nx (partsL D.pg at_.toNat bs.length) bs) i).isSome=true)) n')∨
    (checkF D L at_ bs.length 2=0∧¬P.room t.s<0∧e=.returned (.int .i64 P.ez)∧SS M P w' d t' C k D A cap L m n∧t'.nx≤t.nx+(partsL D.pg at_.toNat bs.length).length))
end
end Go.Proofs.YtlhfjaagkgengaaGreat
