/- A space: which slots name pages that are not there; Of. A space: Of. -/
import Derived.Test.YtlhfjaagkgengaaGreatPC24
namespace Go.Proofs.YtlhfjaagkgengaaGreat
set_option maxRecDepth 100000
set_option maxHeartbeats 8000000
open Go.RowKit Go.Maps
set_option linter.unusedVariables false
set_option linter.unusedSimpArgs false
def i64R (k:Int):Prop:= -9223372036854775808≤k∧k≤9223372036854775807
def slQ (q:Int×Int→Bool) (l:List (Int×Int)) (i:Nat):Bool:=match l[i]? with
 |none=>false
 |some x=>q x
section
variable {w:World} {fn:FuncId} {lb:Array Value} {q:Int×Int→Bool} {B:Option Addr} {c:Nat} {l:List (Int×Int)}
theorem indexS_any (hcf:∀(args:Array Value) (w:World),(callFunc fn args).run Tryz.prog w=.ok (.enter fn args) w) (hl:EAt slE w B l) (hn:l.length≤100000) (a0:Value)
 (hf:∀(x:Int×Int) (V:World),x∈l→Below w.heap.size w V→Calls Tryz.prog fn #[.agg #[.int .i64 x.1,.int .i64 x.2],a0] V fun e w'=>e=.returned (.bool (q x))∧Below V.heap.size V w'):
 Calls Tryz.prog 121 #[.slice B l.length c,.func (.func fn) #[] #[a0]] w fun e w'=>e=.returned (.int .i64 (first (slQ q l) l.length))∧Below w.heap.size w w':=by
 have HH:=hJ hf
 have HL:=hJ hl
 clear hf hl
 go_enter Tryz.func121,Tryz.ntmps121
 go_wp2
 go_loopw [8] (fun i wr=>∃k:Nat,k≤l.length∧i=.int .i64 (k:Nat)∧(∀j,j<k→slQ q l j=false)∧Below w.heap.size w wr) (fun i _=>l.length-(intOf i).toNat)
 case atStart=>exact ⟨0,Nat.zero_le _,rfl,fun j h=>by omega,Below.refl _ _⟩
 case round=>
  obtain ⟨k,hk,rfl,hno,hb⟩:=hrel
  have HN:=hJ hno
  have HB:=hJ hb
  by_cases hlt:k<l.length
  · obtain ⟨x,hx⟩:∃x,l[k]? =some x:=⟨_,jE hlt⟩
    obtain ⟨g,o,hA,hg,hc⟩:=(HL.out.up hb).at_ (by omega)
    obtain ⟨q0,q1⟩:=EAt.sl hc hx
    have hI:(k:Int)<(l.length:Int):=by omega
    rw [hA]
    have HA:=hJ hA
    have hqe:slQ q l k=q x:=by unfold slQ;rw [hx]
    have HQE:=hJ hqe
    have HM:=hJ (jG hx)
    clear hno hb hc hA hx hqe
    go_wp2_with fail
    refine (HH.out x _ HM.out HB.out).mono ?_
    rintro e w1 ⟨rfl,hb1⟩
    have HB1:=hJ (HB.out.trans (hb1.mono HB.out.size))
    clear hb1
    cases hq:q x
    · go_wp2
      go_roundw
      case rel=>
       refine ⟨k+1,by omega,by go_num,fun j hj=>?_,HB1.out⟩
       rcases Nat.lt_or_ge j k with h|h
       · exact HN.out j h
       · obtain rfl:j=k:=by omega
         rw [HQE.out];exact hq
      case measure=>simp [intOf];omega
    · go_wp2
      go_ret
      exact ⟨by rw [first_is (q:=slQ q l) hlt (by rw [HQE.out];exact hq) HN.out];rfl,HB1.out⟩
  · have hI:¬(k:Int)<(l.length:Int):=by omega
    clear hno hb
    go_wp2
    go_ret
    exact ⟨by rw [first_none (q:=slQ q l) (fun i hi=>HN.out i (by omega))];rfl,HB.out⟩
theorem containsS_any (hcf:∀(args:Array Value) (w:World),(callFunc fn args).run Tryz.prog w=.ok (.enter fn args) w) (hl:EAt slE w B l) (hn:l.length≤100000) (a0:Value)
 (hf:∀(x:Int×Int) (V:World),x∈l→Below w.heap.size w V→Calls Tryz.prog fn #[.agg #[.int .i64 x.1,.int .i64 x.2],a0] V fun e w'=>e=.returned (.bool (q x))∧Below V.heap.size V w'):
 Calls Tryz.prog 75 #[.slice B l.length c,.func (.func fn) #[] #[a0]] w fun e w'=>e=.returned (.bool (l.any q))∧Below w.heap.size w w':=by
 have HC:=hJ (indexS_any (c:=c) hcf hl hn a0 hf)
 have hany:decide (0≤first (slQ q l) l.length)=l.any q:=by
  rcases first_spec (slQ q l) l.length with ⟨h1,h2⟩|⟨j,h1,h2,h3,_⟩
  · rw [h1]
    have:l.any q=false:=by
     rw [List.any_eq_false]
     intro x hx
     obtain ⟨i,hi⟩:=List.mem_iff_getElem?.1 hx
     have:=h2 i (jS.1 hi).1
     unfold slQ at this
     rw [hi] at this
     simp at this
     simp [this]
    rw [this]
    rfl
  · rw [h1,decide_eq_true (by omega)]
    symm
    rw [List.any_eq_true]
    unfold slQ at h3
    cases hx:l[j]? with
    |none=>rw [hx] at h3;cases h3
    |some x=>rw [hx] at h3;exact ⟨x,jG hx,h3⟩
 have HA:=hJ hany
 obtain ⟨z,hz⟩:∃z,first (slQ q l) l.length=z:=⟨_,rfl⟩
 rw [hz] at HC HA
 clear hcf hl hf hany hz
 go_enter Tryz.func75,Tryz.ntmps75
 go_wp2_with fail
 refine HC.out.mono ?_
 rintro e w1 ⟨rfl,hb1⟩
 have HB1:=hJ hb1
 clear hb1
 by_cases h0:0≤z
 · have hd:decide (0≤z)=true:=decide_eq_true h0
   go_wp2
   go_ret
   exact ⟨by rw [←HA.out,hd]<;>rfl,HB1.out⟩
 · have hd:decide (0≤z)=false:=decide_eq_false h0
   go_wp2
   go_ret
   exact ⟨by rw [←HA.out,hd]<;>rfl,HB1.out⟩
end
section
variable {σ:Type} {K:SnkF σ} {M:Snk K} {P:PSnk K} {w w' w1 w2 w3 wr:World} {d:PD} {t t' t1 t2 t3:PSt σ} {C C' C1:Cu} {k k1 k2:Nat}
theorem of1_any (h:Pv M P w d t C k) {bp:Nat} (cb:w.cell? ⟨bp,0,none⟩=some (.pointer (some ⟨d.Q,0,none⟩))) (x:Int×Int) (hx:i64R x.2):
 Calls Tryz.prog 76 #[.agg #[.int .i64 x.1,.int .i64 x.2],.pointer (some ⟨bp,0,none⟩)] w fun e w'=>e=.returned (.bool (C x.2).isNone)∧Below w.heap.size w w':=by
 obtain ⟨xa,xi⟩:=x
 simp only at hx
 have H:=hJ h
 have lb:=lt_of_cell cb
 have HX:=hJ hx
 clear h hx
 go_enter Tryz.func76,Tryz.ntmps76
 go_upto_region 1 with (fail)
 refine wp_forget (fun V=>Below w.heap.size w V∧V.cell? ⟨w.heap.size,1,none⟩=some (.int .i64 xi)∧w.heap.size<V.heap.size) ⟨jB.alloc jN _,alloc_cells _ _ _ 1 _ rfl,by simp⟩ ?_
 rintro V ⟨hb,c1,hs⟩
 have cb2:=(hb.cell (p:=⟨bp,0,none⟩) lb).trans cb
 have lb2:=lt_of_cell cb2
 have HB:=hJ hb
 have HP:=hJ (pv_has (H.out.up hb) HX.out)
 obtain ⟨bx,hbx⟩:∃g,w.heap.size=g:=⟨_,rfl⟩
 rw [hbx] at c1 hs
 rw [hbx]
 have HBX:=hJ hbx
 clear hb hbx cb
 go_wp2_with (go_at_call 77;go_loud (refine HP.out.mono ?_;rintro e w1 ⟨rfl,rfl⟩))
 go_ret
 exact ⟨rfl,HB.out⟩
end
set_option maxRecDepth 100000
set_option maxHeartbeats 8000000
def slF (l:List (Int×Int)):Int→Option Int:=l.foldl (fun m x=>updM m x.1 (some x.2)) fun _=>none
theorem slF_snoc (l:List (Int×Int)) (x:Int×Int):slF (l ++ [x])=updM (slF l) x.1 (some x.2):=by
 unfold slF
 rw [List.foldl_append]
 rfl
def keepC (C:Cu) (l:List (Int×Int)):Cu:=l.foldl (fun C x=>updU C x.2 ((C x.2).map fun p=>(p.1,p.2+1))) C
theorem keepC_snoc (C:Cu) (l:List (Int×Int)) (x:Int×Int):keepC C (l ++ [x])=updU (keepC C l) x.2 ((keepC C l x.2).map fun p=>(p.1,p.2+1)):=by
 unfold keepC
 rw [List.foldl_append]
 rfl
theorem keepC_take (C:Cu) (l:List (Int×Int)):∀(j:Nat) (id:Int),∃n:Nat,n≤j∧keepC C (l.take j) id=(C id).map fun p=>(p.1,p.2+(n:Int)):=by
 intro j
 induction j with
 |zero=>intro id;exact ⟨0,Nat.le_refl _,by unfold keepC;cases hC:C id<;>simp [hC]⟩
 | succ j ih=>
   intro id
   obtain ⟨n,h1,h2⟩:=ih id
   rw [List.take_add_one]
   cases hx:l[j]? with
   |none=>exact ⟨n,by omega,by simpa using h2⟩
   | some x=>
     rw [show (some x).toList=[x] from rfl,keepC_snoc]
     by_cases e:id=x.2
     · rw [e,updU_same,←e,h2]
       refine ⟨n+1,by omega,?_⟩
       cases C id with
       |none=>rfl
       |some p=>simp;omega
     · rw [updU_ne _ _ e]
       exact ⟨n,by omega,h2⟩
theorem shaped_up {ps rg:Nat} {L:List Rg} {l:List (Int×Int)} (h:shapedB ps rg L l=true):rightL ps L=true∧L.length≤rg∧l.Pairwise (fun x y=>x.1<y.1)∧∀x∈l,findB L x.1=true:=by
 unfold shapedB at h
 rw [Bool.and_eq_true,Bool.and_eq_true,decide_eq_true_eq,List.all_eq_true] at h
 obtain ⟨⟨h1,h2⟩,h3⟩:=h
 have hs:∀i x,l[i]? =some x→findB L x.1=true∧∀j y,i=j+1→l[j]? =some y→y.1<x.1:=by
  intro i x hx
  have:=h3 i (by simp;exact (jS.1 hx).1)
  unfold slotB at this
  rw [hx] at this
  simp only [Bool.and_eq_true] at this
  refine ⟨this.1,fun j y e hy=>?_⟩
  subst e
  have h4:=this.2
  simp only [hy] at h4
  exact of_decide_eq_true h4
 refine ⟨h1,h2,?_,fun x hx=>?_⟩
 · have hadj:∀(l:List (Int×Int)),(∀i x,l[i]? =some x→∀j y,i=j+1→l[j]? =some y→y.1<x.1)→l.Pairwise (fun x y=>x.1<y.1):=by
    intro l
    induction l with
    |nil=>intro _;exact List.Pairwise.nil
    | cons a l ih=>
      intro hh
      have ih2:=ih fun i x hx j y e hy=>hh (i+1) x (by simpa using hx) (j+1) y (by omega) (by simpa using hy)
      refine List.pairwise_cons.2 ⟨fun b hb=>?_,ih2⟩
      cases l with
      |nil=>cases hb
      | cons c l=>
        have h0:=hh 1 c rfl 0 a rfl rfl
        rcases List.mem_cons.1 hb with rfl|hb
        · exact h0
        · have:=(List.pairwise_cons.1 ih2).1 b hb
          omega
   exact hadj l fun i x hx=>(hs i x hx).2
 · obtain ⟨i,hi⟩:=List.mem_iff_getElem?.1 hx
   exact (hs i x hi).1
theorem slF_none {l:List (Int×Int)}:∀(j:Nat) (i:Int),(∀x∈l.take j,x.1≠i)→slF (l.take j) i=none:=by
 intro j
 induction j with
 |zero=>intro i _;rfl
 | succ j ih=>
   intro i h
   rw [List.take_add_one] at h ⊢
   cases hx:l[j]? with
   | none=>
     rw [hx] at h
     simp only [Option.toList,List.append_nil] at h ⊢
     exact ih i h
   | some x=>
     rw [hx] at h
     rw [show (some x).toList=[x] from rfl,slF_snoc,updM_ne _ _ (fun e=>h x (by simp) e.symm)]
     exact ih i fun y hy=>h y (List.mem_append_left _ hy)
theorem slF_some {l:List (Int×Int)}:∀(j:Nat) (i id:Int),slF (l.take j) i=some id→(i,id)∈l.take j:=by
 intro j
 induction j with
 |zero=>intro i id h;cases h
 | succ j ih=>
   intro i id h
   rw [List.take_add_one] at h ⊢
   cases hx:l[j]? with
   | none=>
     rw [hx] at h
     simp only [Option.toList,List.append_nil] at h ⊢
     exact ih i id h
   | some x=>
     rw [hx,show (some x).toList=[x] from rfl,slF_snoc] at h
     by_cases e:i=x.1
     · rw [e,updM_same] at h
       cases h
       rw [e]
       exact List.mem_append_right _ (by simp)
     · rw [updM_ne _ _ e] at h
       exact List.mem_append_left _ (ih i id h)
section
variable {σ:Type} {K:SnkF σ} {M:Snk K} {P:PSnk K} {w w' w1 w2 w3 wr:World} {d:PD} {t t' t1 t2 t3:PSt σ} {C C' C1:Cu} {k k1 k2:Nat}
structure OfI {σ:Type} {K:SnkF σ} (M:Snk K) (P:PSnk K) (w wr:World) (d:PD) (t t':PSt σ) (C:Cu) (k:Nat) (D:SpD) (A:Option Addr) (cap:Nat) (L:List Rg) (l:List (Int×Int)) (B:Option Addr) (b5 j:Nat):Prop where
 ss:SS M P wr d t' (keepC C (l.take j)) k D A cap L (slF (l.take j)) j
 nx:Nx P w wr d t t'
 e1:t'.nx=t.nx
 box:wr.cell? ⟨b5,0,none⟩=some (.pointer (some ⟨d.Q,0,none⟩))
 bO:¬Own d t' b5∧¬spO D A L.length b5
 sl:EAt slE wr B l
 sO:∀q,eO B l.length q→q<w.heap.size∧¬Own d t' q
 new:∀q,spO D A L.length q→w.heap.size≤q
theorem OfI.up {D:SpD} {A B:Option Addr} {cap b5 j:Nat} {L:List Rg} {l:List (Int×Int)} (h:OfI M P w w1 d t t1 C k D A cap L l B b5 j) (hb:Below w1.heap.size w1 w2):OfI M P w w2 d t t1 C k D A cap L l B b5 j:=
 ⟨h.ss.up hb,h.nx.up hb,h.e1,(hb.cell (p:=⟨b5,0,none⟩) (lt_of_cell h.box)).trans h.box,h.bO,h.sl.up hb,h.sO,h.new⟩
theorem OfI.step {D:SpD} {A B:Option Addr} {cap b5 j:Nat} {L:List Rg} {l:List (Int×Int)} (h:OfI M P w w1 d t t1 C k D A cap L l B b5 j) {x:Int×Int} (hx:l[j]? =some x) (hr:i64R x.1) (hj:j≤100000) (hup:l.Pairwise (fun x y=>x.1<y.1)) (hC:∀y∈l,(C y.2).isSome=true) (hu:∀y∈l,∀b u,C y.2=some (b,u)→0≤u∧u≤500000):
 ∃ w2,(Instr.mapUpdate 112 (.map (some D.Mm)) (.int .i64 x.1) (.int .i64 x.2)).run Tryz.prog w1=.ok () w2∧Off (· =D.Mm) w1 w2∧w2.cell? ⟨b5,0,none⟩=some (.pointer (some ⟨d.Q,0,none⟩))∧
   Calls Tryz.prog 66 #[.pointer (some ⟨d.Q,0,none⟩),.int .i64 x.2] w2 fun e w3=>e=.returned (.tuple #[])∧∃t3,Nx P w2 w3 d t1 t3∧OfI M P w w3 d t t3 C k D A cap L l B b5 (j+1):=by
 obtain ⟨w2,hrun,hs2,ho2⟩:=h.ss.sp.putM (i:=x.1) (id:=x.2) hr
 have htake:l.take (j+1)=l.take j ++ [x]:=by rw [List.take_add_one,hx];rfl
 have hxm:=jG hx
 have hnone:slF (l.take j) x.1=none:=slF_none j x.1 fun y hy=>by
  obtain ⟨i,hi⟩:=List.mem_iff_getElem?.1 hy
  rw [List.getElem?_take] at hi
  split at hi
  · rename_i hij
    have h1:=jS.1 hi
    have h2:=jS.1 hx
    have:=List.pairwise_iff_getElem.1 hup i j h1.1 h2.1 hij
    rw [h1.2,h2.2] at this
    omega
  · cases hi
 rw [hnone,Option.isSome_none,if_neg (by decide),←slF_snoc,←htake] at hs2
 have hMo:¬Own d t1 D.Mm:=h.ss.sep _ (.inr (.inl rfl))
 have hpv2:=h.ss.pv.offL ho2 (fun b e=>by rw [e];exact hMo)
 have hMn:=h.new D.Mm (.inr (.inl rfl))
 have hb5:¬b5=D.Mm:=fun e=>h.bO.2 (.inr (.inl e))
 have hbx2:w2.cell? ⟨b5,0,none⟩=some (.pointer (some ⟨d.Q,0,none⟩)):=(ho2.cell (p:=⟨b5,0,none⟩) (lt_of_cell h.box) hb5).trans h.box
 refine ⟨w2,hrun,ho2,hbx2,?_⟩
 obtain ⟨n0,hn0,hk0⟩:=keepC_take C l j x.2
 have hsome:=hC x hxm
 cases hCx:C x.2 with
 |none=>rw [hCx] at hsome;cases hsome
 | some p=>
   obtain ⟨b,u⟩:=p
   have hub:=hu x hxm b u hCx
   rw [hCx] at hk0
   simp only [Option.map_some] at hk0
   refine (pv_keep hpv2 hk0 (by omega)).mono ?_
   rintro e w3 ⟨rfl,t3,hv3,hx3,e31,e32⟩
   have hkC:updU (keepC C (l.take j)) x.2 (some (b,u+(n0:Int)+1))=keepC C (l.take (j+1)):=by
    rw [htake,keepC_snoc,hk0]
    rfl
   rw [hkC] at hv3
   have hMlt:=h.ss.sp.mp.lt
   have hlt2:=ho2.size
   have hnx2:Nx P w w3 d t t3:=(h.nx.offN ho2 (fun q e=>by rw [e];exact hMn)).trans hx3
   have hsO2:∀q,eO B l.length q→q<w2.heap.size∧¬Own d t1 q:=fun q hq=>⟨by have:=(h.sO q hq).1;have:=h.nx.off.size;omega,(h.sO q hq).2⟩
   have hsp3:=hs2.off hx3.off (fun q e hq=>h.ss.sep q hq e)
   have hspl:∀q,spO D A L.length q→q<w2.heap.size:=fun q hq=>Nat.lt_of_lt_of_le (h.ss.sp.lt hq) hlt2
   refine ⟨rfl,t3,hx3,⟨⟨hsp3,hv3,h.ss.ok,h.ss.q,h.ss.z,fun q hq=>(hx3.keep (hspl q hq) (h.ss.sep q hq)).2,fun i id hi=>?_,h.ss.len⟩,hnx2,e31.trans h.e1,(hx3.cell (lt_of_cell hbx2) h.bO.1).trans hbx2,⟨(hx3.keep (lt_of_cell hbx2) h.bO.1).2,h.bO.2⟩,
    (h.sl.off ho2 (fun q e hq=>by have:=(h.sO q hq).1;omega)).off hx3.off (fun q e hq=>(h.sO q hq).2 e),fun q hq=>⟨(h.sO q hq).1,(hx3.keep (hsO2 q hq).1 (hsO2 q hq).2).2⟩,h.new⟩⟩
   have hm:=slF_some (j+1) i id hi
   have hml:=List.mem_of_mem_take hm
   obtain ⟨n1,_,hk1⟩:=keepC_take C l (j+1) id
   have hs2:=hC (i,id) hml
   simp only at hs2
   cases hci:C id with
   |none=>rw [hci] at hs2;cases hs2
   |some p=>rw [hk1,hci];exact ⟨_,rfl⟩
def OfPost (M:Snk K) (P:PSnk K) (w:World) (d:PD) (t:PSt σ) (C:Cu) (k:Nat) (cf:Nat→Int) (pg rg ps:Nat) (L:List Rg) (l:List (Int×Int)) (e:Ending) (w':World):Prop:=
 ((shapedB ps rg L l=false∨l.any (fun x=>(C x.2).isNone)=true)∧e=.returned (.tuple #[.pointer none,.int .i64 22])∧Below w.heap.size w w')∨
 (shapedB ps rg L l=true∧l.any (fun x=>(C x.2).isNone)=false∧∃X Mm A' cap' t',e=.returned (.tuple #[.pointer (some ⟨X,0,none⟩),.int .i64 0])∧SS M P w' d t' (keepC C l) k ⟨X,Mm,d.Q,cf,pg,rg,ps⟩ A' cap' L (slF l) l.length∧Nx P w w' d t t'∧t'.nx=t.nx∧
  ∀q,spO ⟨X,Mm,d.Q,cf,pg,rg,ps⟩ A' L.length q→w.heap.size≤q)
theorem of_b (h:Pv M P w d t C k) {cf:Nat→Int} {pg rg ps:Nat} (hD:(SpD.mk 0 0 d.Q cf pg rg ps).Ok) (hz:pg=d.z) {A B:Option Addr} (cA cB:Nat) {L:List Rg} {l:List (Int×Int)} (hL:RgAt w A L) (hn:L.length≤10000) (hl:EAt slE w B l) (hln:l.length≤100000) (hid:∀x∈l,i64R x.1∧i64R x.2)
 (hu:∀x∈l,∀b u,C x.2=some (b,u)→0≤u∧u≤500000) (hLo:∀q,rgO A L.length q→¬Own d t q) (hlo:∀q,eO B l.length q→¬Own d t q):
 Calls Tryz.prog 23 #[cfgV cf,.pointer (some ⟨d.Q,0,none⟩),.slice A L.length cA,.slice B l.length cB] w (OfPost M P w d t C k cf pg rg ps L l):=by
 have H:=hJ h
 have HL:=hJ hL
 have HE:=hJ hl
 have HID:=hJ hid
 have HU:=hJ hu
 have HLO:=hJ hLo
 have HlO:=hJ hlo
 have HD:=hJ hD
 have hrg:=hD.b7.2
 have e7:cf 7=(rg:Nat):=hD.e7
 have e8:cf 8=(ps:Nat):=hD.e8
 have HSH:=fun V (hb:Below w.heap.size w V)=>hJ (shaped_any V e7 e8 hrg cA cB (hL.up hb) hn (hl.up hb) hln)
 have HSH2:Hid (∀V,Below w.heap.size w V→Calls Tryz.prog 74 #[cfgV cf,.slice A L.length cA,.slice B l.length cB] V fun e w'=>e=.returned (.bool (shapedB ps rg L l))∧Below V.heap.size V w'):=hJ fun V hb=>(HSH V hb).out
 have HNW:Hid (∀V,Calls Tryz.prog 15 #[cfgV cf,.pointer (some ⟨d.Q,0,none⟩)] V (NewSp V cf d.Q pg rg ps)):=hJ fun V=>spNew_any V cf d.Q pg rg ps
 have hnx:=h.nb
 unfold cfgV at HSH2 HNW ⊢
 generalize cf 0=x0 at *
 generalize cf 1=x1 at *
 generalize cf 2=x2 at *
 generalize cf 3=x3 at *
 generalize cf 4=x4 at *
 generalize cf 5=x5 at *
 generalize cf 6=x6 at *
 generalize cf 7=x7 at *
 generalize cf 8=x8 at *
 have HZQ:=hJ hz
 clear h hL hl hid hu hLo hlo hD HSH e7 e8 hz
 go_enter Tryz.func23,Tryz.ntmps23
 go_upto_region 1 with (fail)
 refine wp_forget (fun V=>Below w.heap.size w V∧(∀i v,(#[.int .i64 x0,.int .i64 x1,.int .i64 x2,.int .i64 x3,.int .i64 x4,.int .i64 x5,.int .i64 x6,.int .i64 x7,.int .i64 x8]:Array Value)[i]? =some v→V.cell? ⟨w.heap.size,i,none⟩=some v)∧V.cell? ⟨w.heap.size+1,0,none⟩=some (.pointer (some ⟨d.Q,0,none⟩))∧V.heap.size=w.heap.size+2) ?_ ?_
 · have b1:Below w.heap.size w (w.alloc (.cells #[.int .i64 x0,.int .i64 x1,.int .i64 x2,.int .i64 x3,.int .i64 x4,.int .i64 x5,.int .i64 x6,.int .i64 x7,.int .i64 x8] 23)):=jB.alloc jN _
   have k1:=alloc_cells w #[.int .i64 x0,.int .i64 x1,.int .i64 x2,.int .i64 x3,.int .i64 x4,.int .i64 x5,.int .i64 x6,.int .i64 x7,.int .i64 x8] 23
   have s1:(w.alloc (.cells #[.int .i64 x0,.int .i64 x1,.int .i64 x2,.int .i64 x3,.int .i64 x4,.int .i64 x5,.int .i64 x6,.int .i64 x7,.int .i64 x8] 23)).heap.size=w.heap.size+1:=by simp
   generalize w.alloc (.cells #[.int .i64 x0,.int .i64 x1,.int .i64 x2,.int .i64 x3,.int .i64 x4,.int .i64 x5,.int .i64 x6,.int .i64 x7,.int .i64 x8] 23)=W1 at *
   have b2:Below W1.heap.size W1 (W1.alloc (.cells #[.pointer (some ⟨d.Q,0,none⟩)] 28)):=jB.alloc jN _
   have k2:=alloc_cells W1 #[.pointer (some ⟨d.Q,0,none⟩)] 28 0 _ rfl
   rw [s1] at k2
   exact ⟨b1.trans (b2.mono (by omega)),fun i v hv=>(b2.cell (p:=⟨w.heap.size,i,none⟩) (by show w.heap.size<W1.heap.size;omega)).trans (k1 i v hv),k2,by simp [s1]⟩
 rintro V ⟨hbv,hcc,c5,hsv⟩
 obtain ⟨b4,hb4⟩:∃g,w.heap.size=g:=⟨_,rfl⟩
 rw [hb4] at hcc c5 hsv
 rw [hb4]
 have HBV:=hJ hbv
 have HCC:=hJ hcc
 have HB4:=hJ hb4
 have l4:b4<V.heap.size:=by omega
 have l5:b4+1<V.heap.size:=by omega
 have c40:=hcc 0 _ rfl
 have c41:=hcc 1 _ rfl
 have c42:=hcc 2 _ rfl
 have c43:=hcc 3 _ rfl
 have c44:=hcc 4 _ rfl
 have c45:=hcc 5 _ rfl
 have c46:=hcc 6 _ rfl
 have c47:=hcc 7 _ rfl
 have c48:=hcc 8 _ rfl
 have HS1:=hJ (HSH2.out V hbv)
 have HC5:=hJ c5
 obtain ⟨z1,hz1⟩:∃z,shapedB ps rg L l=z:=⟨_,rfl⟩
 rw [hz1] at HS1
 have HZ1:=hJ hz1
 clear hbv hcc hb4 hsv c5 hz1 HSH2
 cases z1 with
 | false=>
   go_wp2_with (go_at_call 74;go_loud (refine HS1.out.mono ?_;rintro e W1 ⟨rfl,hb1⟩;have HB1:=hJ (HBV.out.trans (hb1.mono HBV.out.size));clear hb1))
   go_ret2
   exact .inl ⟨.inl HZ1.out,rfl,HB1.out⟩
 | true=>
   have HCF:Hid (∀W1,Below V.heap.size V W1→Calls Tryz.prog 75 #[.slice B l.length cB,.func (.func 76) #[] #[.pointer (some ⟨b4+1,0,none⟩)]] W1 fun e w'=>e=.returned (.bool (l.any fun x=>(C x.2).isNone))∧Below W1.heap.size W1 w'):=hJ fun W1 hb1=>by
    have hbw:=HBV.out.trans (hb1.mono HBV.out.size)
    refine containsS_any (c:=cB) (ent_fn Tryz.func76 (by kernel_rfl) rfl) (HE.out.up hbw) hln _ fun x V2 hx hb2=>?_
    have hb2w:=hbw.trans (hb2.mono hbw.size)
    have hc5:=(hb2.cell (p:=⟨b4+1,0,none⟩) (Nat.lt_of_lt_of_le l5 hb1.size)).trans ((hb1.cell (p:=⟨b4+1,0,none⟩) l5).trans HC5.out)
    exact of1_any (H.out.up hb2w) hc5 x (HID.out x hx).2
   obtain ⟨z2,hz2⟩:∃z,(l.any fun x=>(C x.2).isNone)=z:=⟨_,rfl⟩
   rw [hz2] at HCF
   have HZ2:=hJ hz2
   clear hz2
   cases z2 with
   | true=>
     go_wp2_with (first
      |(go_at_call 74;go_loud (refine HS1.out.mono ?_;rintro e W1 ⟨rfl,hb1⟩;have HB1:=hJ hb1;have HCF1:=hJ (HCF.out W1 hb1);clear hb1))
      |(go_at_call 75;go_loud (refine HCF1.out.mono ?_;rintro e W2 ⟨rfl,hb2⟩;have HB2:=hJ (HB1.out.trans (hb2.mono HB1.out.size));clear hb2)))
     go_ret2
     exact .inl ⟨.inr HZ2.out,rfl,HBV.out.trans (HB2.out.mono HBV.out.size)⟩
   | false =>
     go_upto_region 3 with (first
      |(go_at_call 74;go_loud (refine HS1.out.mono ?_;rintro e W1 ⟨rfl,hb1⟩;have HB1:=hJ hb1;have HCF1:=hJ (HCF.out W1 hb1);clear hb1))
      |(go_at_call 75;go_loud (refine HCF1.out.mono ?_;rintro e W2 ⟨rfl,hb2⟩;have HB2:=hJ (HB1.out.trans (hb2.mono HB1.out.size));clear hb2)))
     clear c40 c41 c42 c43 c44 c45 c46 c47 c48 HS1 HCF HCF1 HB1
     have hb2:=HB2.out
     have c4:∀i v,(#[.int .i64 x0,.int .i64 x1,.int .i64 x2,.int .i64 x3,.int .i64 x4,.int .i64 x5,.int .i64 x6,.int .i64 x7,.int .i64 x8]:Array Value)[i]? =some v→W2.cell? ⟨b4,i,none⟩=some v:=fun i v hv=>(hb2.cell (p:=⟨b4,i,none⟩) l4).trans (HCC.out i v hv)
     have c40:W2.cell? ⟨b4,0,none⟩=some (.int .i64 x0):=c4 0 _ rfl
     have c41:W2.cell? ⟨b4,1,none⟩=some (.int .i64 x1):=c4 1 _ rfl
     have c42:W2.cell? ⟨b4,2,none⟩=some (.int .i64 x2):=c4 2 _ rfl
     have c43:W2.cell? ⟨b4,3,none⟩=some (.int .i64 x3):=c4 3 _ rfl
     have c44:W2.cell? ⟨b4,4,none⟩=some (.int .i64 x4):=c4 4 _ rfl
     have c45:W2.cell? ⟨b4,5,none⟩=some (.int .i64 x5):=c4 5 _ rfl
     have c46:W2.cell? ⟨b4,6,none⟩=some (.int .i64 x6):=c4 6 _ rfl
     have c47:W2.cell? ⟨b4,7,none⟩=some (.int .i64 x7):=c4 7 _ rfl
     have c48:W2.cell? ⟨b4,8,none⟩=some (.int .i64 x8):=c4 8 _ rfl
     have c5:=(hb2.cell (p:=⟨b4+1,0,none⟩) l5).trans HC5.out
     have l4':=lt_of_cell c40
     have l5':=lt_of_cell c5
     have HN2:=hJ (HNW.out W2)
     clear hb2 c4 HC5 HCC HNW
     go_upto_region 4 with (go_at_call 15;go_loud (refine HN2.out.mono ?_;rintro e W3 ⟨X,Mm,rfl,hsp,hb3,hX,hMm⟩;have d5:=(hb3.cell (p:=⟨b4+1,0,none⟩) l5').trans c5;have m5:=lt_of_cell d5;have HSP:=hJ hsp;have HB3:=hJ (HBV.out.trans ((HB2.out.trans (hb3.mono HB2.out.size)).mono HBV.out.size));have HXM:Hid (w.heap.size≤X∧w.heap.size≤Mm∧b4+1<X∧b4+1<Mm):=hJ (by have:=HBV.out.size;have:=HB2.out.size;have:=HB4.out;omega);clear hsp hb3 hX hMm))
     clear c40 c41 c42 c43 c44 c45 c46 c47 c48 c5 l4' l5' HN2 HB2 l4 l5
     have HCL:=hJ (cloneG_any W3 cA (HL.out.up HB3.out) (by omega))
     have f10:=HSP.out.fz 10
     have lX3:=HSP.out.ltX
     have c10:=HSP.out.c10
     simp only at f10 lX3 c10
     go_upto_region 5 with (go_at_call 78;go_loud (refine HCL.out.mono ?_;rintro e W4 ⟨A1,c1,rfl,how,hb4⟩;have HT:=hJ (turn_set HSP.out (And.intro how hb4));have f10':=(hb4.frozen (p:=⟨X,10,none⟩) lX3).trans f10;have c10':=(hb4.cell (p:=⟨X,10,none⟩) lX3).trans c10;have lX4:=lt_of_cell c10';have d5':=(hb4.cell (p:=⟨b4+1,0,none⟩) m5).trans d5;have HB34:=hJ hb4;have HOW:=hJ how;clear how hb4))
     have HI0:Hid (OfI M P w (W4.setCell ⟨X,10,none⟩ (.slice A1 L.length c1)) d t t C k ⟨X,Mm,d.Q,cf,pg,rg,ps⟩ A1 c1 L l B (b4+1) 0):=by
      obtain ⟨_,ho,hcs⟩:=HT.out
      have hxm:=HXM.out
      have hb34:=HB34.out
      have hb3:=HB3.out
      have hoo:Off (· =X) W4 (W4.setCell ⟨X,10,none⟩ (.slice A1 L.length c1)):=(Off.refl (· =X) W4).setCell (p:=⟨X,10,none⟩) rfl _
      have hbel:Below w.heap.size w (W4.setCell ⟨X,10,none⟩ (.slice A1 L.length c1)):=(hb3.trans (hb34.mono hb3.size)).trans (hoo.below (fun q e=>by rw [e];exact hxm.1) (by have:=hb3.size;have:=hb34.size;omega))
      rcases hcs with ⟨_,A',cap',hsp,hg⟩|⟨h0,_⟩
      · have hc10:=hsp.c10
        have hcell:(W4.setCell ⟨X,10,none⟩ (.slice A1 L.length c1)).cell? ⟨X,10,none⟩=some (.slice A1 L.length c1):=World.cell?_setCell_same _ _ _ c10'
        have heq:=hc10.symm.trans hcell
        injection heq with heq
        injection heq with e1 e2 e3
        subst e1
        subst e3
        have hnew:∀q,spO ⟨X,Mm,d.Q,cf,pg,rg,ps⟩ A' L.length q→w.heap.size≤q:=fun q hq=>by
         rcases hq with e|e|e
         · rw [e];exact hxm.1
         · rw [e];exact hxm.2.1
         · exact Nat.le_trans hb3.size (hg q e)
        have hO:∀q,w.heap.size≤q→¬Own d t q:=fun q hq ho=>by have:=H.out.lt ho;omega
        have hb4w:=HB4.out
        refine hJ ⟨⟨hsp,H.out.up hbel,⟨HD.out.e4,HD.out.e7,HD.out.e8,HD.out.b4,HD.out.b7,HD.out.b8⟩,rfl,HZQ.out,fun q hq=>hO q (hnew q hq),(fun i id e=>by cases e),by omega⟩,Nx.refl.up hbel,rfl,?_,⟨hO _ (by omega),fun e=>?_⟩,HE.out.up hbel,fun q hq=>⟨HE.out.lt hq,HlO.out q hq⟩,hnew⟩
        · exact (hoo.cell (p:=⟨b4+1,0,none⟩) (lt_of_cell d5') (fun e=>by have:b4+1=X:=e;omega)).trans d5'
        · rcases e with e|e|e
          · have:b4+1=X:=e;omega
          · have:b4+1=Mm:=e;omega
          · have:=hg _ e;omega
      · exact absurd rfl h0
     have HUP:=hJ (shaped_up HZ1.out).2.2.1
     have HCS:Hid (∀y∈l,(C y.2).isSome=true):=hJ fun y hy=>by
      have h2:=HZ2.out
      rw [List.any_eq_false] at h2
      have:=h2 y hy
      cases hc:C y.2 with
      |none=>rw [hc] at this;simp at this
      |some p=>rfl
     generalize W4.setCell ⟨X,10,none⟩ (.slice A1 L.length c1)=W5 at *
     clear HT HSP HB34 HOW f10 f10' c10 c10' lX3 lX4 d5 d5' m5 HCL
     go_wp2_with fail
     go_loopw [33,12] (fun i _ wr=>∃(j:Nat) (t':PSt σ),j≤l.length∧i=.int .i64 (j:Nat)∧OfI M P w wr d t t' C k ⟨X,Mm,d.Q,cf,pg,rg,ps⟩ A1 c1 L l B (b4+1) j) (fun i _ _=>l.length-(intOf i).toNat)
     case atStart=>exact ⟨0,t,by omega,rfl,HI0.out⟩
     case round=>
      obtain ⟨j,t1,hj,rfl,hi⟩:=hrel
      have HI:=hJ hi
      by_cases hjn:j<l.length
      · obtain ⟨x,hx⟩:∃x,l[j]? =some x:=⟨_,jE hjn⟩
        obtain ⟨g,o,hA,hg,hc⟩:=hi.sl.at_ (by omega)
        obtain ⟨q0,q1⟩:=EAt.sl hc hx
        have hjI:(j:Int)<(l.length:Int):=by omega
        rw [hA]
        have HA:=hJ hA
        have HX:=hJ hx
        have HXR:=hJ (HID.out x (jG hx)).1
        obtain ⟨xk,xi⟩:=x
        simp only at q0 q1 HXR
        clear hc hA hx hi
        go_upto_region 8 with (fail)
        refine wp_forget (fun V=>OfI M P w V d t t1 C k ⟨X,Mm,d.Q,cf,pg,rg,ps⟩ A1 c1 L l B (b4+1) j∧V.cell? ⟨wr.heap.size,0,none⟩=some (.int .i64 xk)∧V.cell? ⟨wr.heap.size,1,none⟩=some (.int .i64 xi)∧¬Own d t1 wr.heap.size∧wr.heap.size≠Mm) ⟨HI.out.up (jB.alloc jN _),alloc_cells _ _ _ 0 _ rfl,alloc_cells _ _ _ 1 _ rfl,fun e=>by have:=HI.out.ss.pv.lt e;omega,fun e=>by have:=HI.out.ss.sp.mp.lt;simp only at this;omega⟩ ?_
        rintro V ⟨hiv,y0,y1,hno,hne⟩
        obtain ⟨b8,hb8⟩:∃g,wr.heap.size=g:=⟨_,rfl⟩
        rw [hb8] at y0 y1 hno hne
        rw [hb8]
        have s11:=hiv.ss.sp.c11
        have lX:=hiv.ss.sp.ltX
        simp only at s11 lX
        have hdr:Below V.heap.size V V.drew:=jB.drew
        obtain ⟨w6,hr6,ho6,cb6,hk6⟩:=(hiv.up hdr).step HX.out HXR.out (by omega) HUP.out HCS.out HU.out
        simp only at hr6 ho6
        have l8:=lt_of_cell y0
        have v1:=(ho6.cell (p:=⟨b8,1,none⟩) l8 hne).trans y1
        have l86:=lt_of_cell v1
        have l56:=lt_of_cell cb6
        have HK6:=hJ hk6
        clear hiv hk6 ho6 hb8 q0 q1 hdr
        go_upto_region 8 with (fail)
        go_still_tail 8,(by kernel_rfl)
        change wpList _ _ _ _ _ V.drew
        go_upto_region 9 with (fail)
        go_wp2_with (go_at_call 66;go_loud (refine HK6.out.mono ?_;rintro e w7 ⟨rfl,t7,hx7,hi7⟩;have HI7:=hJ hi7;clear hx7 hi7))
        go_roundw
        case rel=>
         have h7:=HI7.out
         rw [HA.out] at h7
         exact ⟨j+1,t7,by omega,by go_num,h7⟩
        case measure=>simp [intOf];omega
      · obtain rfl:j=l.length:=by omega
        have hii:¬(l.length:Int)<(l.length:Int):=by omega
        clear hjn hi
        go_wp2
        go_ret2
        have h7:=HI.out
        have hs:=h7.ss
        rw [List.take_length] at hs
        exact .inr ⟨HZ1.out,HZ2.out,X,Mm,A1,c1,t1,rfl,hs,h7.nx,h7.e1,h7.new⟩
end
end Go.Proofs.YtlhfjaagkgengaaGreat
