/- almanaclaw16: a step, whatever the act. SpacePlays, walked. SpaceShares: what the law needs of spaces that share pages. -/
import Derived.Test.YtlhfjaagkgengaaGreatPA03
import Derived.Test.YtlhfjaagkgengaaGreatPB49
import Derived.Test.YtlhfjaagkgengaaGreatPB48
namespace Go.Proofs.YtlhfjaagkgengaaGreat
open Go.RowKit Go.Maps
set_option linter.unusedVariables false
set_option linter.unusedSimpArgs false
section
variable {w0 w w' w1 w2:World} {o:WD} {t t':PSt ShS} {C C':Cu} {kk k U:Nat} {sp:List (Option Spc)} {P P':List (Option MPr)}
theorem step16_any (x:Ac16) (hx:x.In w0) (hf:x.far=false) (hU:U+x.m≤100000) (h:WS w0 w o t C (kk+(8192+2*x.m+(o.d.n+1))) U sp P):
 Calls Tryz.prog 22 #[.pointer (some ⟨o.W,0,none⟩),.agg #[.int .i64 x.a,.int .i64 x.kind,.int .i64 x.pid,.int .i64 x.at_,.int .i64 x.n,.int .i64 x.prot,.slice x.A x.m x.c]] w (StPost16 w0 o kk (U+x.m) sp):=by
 have hl:=hx.by_.1
 have hA:∀g o',0<x.m→x.A=some ⟨g,o',none⟩→g<w0.heap.size:=fun g o' hp e=>by
  obtain ⟨b,o2,e2,hb,_⟩:=hx.by_.2 hp
  rw [e] at e2
  cases e2
  exact hb
 have hS:=hx.by_.low (V:=w) hA (Below.refl _ _) h.b.bel
 have e1:x.m=x.d.length:=hl.symm
 refine step16_all x.m x.a x.kind x.pid x.at_ x.n x.prot x.A x.m x.c e1 (by omega) (by omega) (by have:=hx.le;omega) (by omega) (fun k5 hc=>?_) hS hA (h.less (by omega) (Nat.le_refl _))
 unfold Ac16.far at hf
 rw [decide_eq_true k5,decide_eq_true hc.1,decide_eq_true hc.2] at hf
 cases hf
end
theorem few16_at {L:List Ac16} (h:few16B L=true):L.length≤100∧sumR (L.map Ac16.op)≤16384∧∀x∈L,x.far=false:=by
 unfold few16B fewR at h
 rw [Bool.and_eq_true,Bool.and_eq_true,Bool.and_eq_true,decide_eq_true_eq,decide_eq_true_eq,decide_eq_true_eq,List.all_eq_true] at h
 obtain ⟨h1,h2,_,h3⟩:=h
 refine ⟨h1,h3,fun x hx=>?_⟩
 have:=h2 x.op (List.mem_map.2 ⟨x,hx,rfl⟩)
 cases e:x.far with
 |false=>rfl
 | true=>
   have e2:x.op.far=x.far:=rfl
   rw [e2,e] at this
   cases this
theorem Ac16.In.up {x:Ac16} {w w':World} (h:x.In w) (hb:Below w.heap.size w w'):x.In w':=⟨h.by_.up hb,h.le⟩
theorem SlOf.uniq {m:Pm} {n n':Nat} {L L':List (Int×Int)} (h:SlOf m n L) (h':SlOf m n' L'):L=L':=by
 have key:∀{n:Nat} {L:List (Int×Int)},SlOf m n L→L=(L.map (·.1)).map fun k=>(k,(m k).getD 0):=fun {n L} h=>by
  rw [List.map_map]
  have:∀x∈L,x=((fun k=>(k,(m k).getD 0)) ∘ fun x:Int×Int=>x.1) x:=fun x hx=>by
   have:=(h.mem x.1 x.2).1 hx
   show x=(x.1,(m x.1).getD 0)
   rw [this]
   rfl
  exact (List.map_id L).symm.trans (List.map_congr_left this)
 rw [key h,key h']
 congr 1
 refine rising_eq (by rw [List.pairwise_map];exact h.up) (by rw [List.pairwise_map];exact h'.up) fun x=>?_
 have hx:∀{n:Nat} {L:List (Int×Int)},SlOf m n L→(x∈L.map (·.1) ↔ (m x).isSome=true):=fun {n L} h=>by
  rw [List.mem_map]
  constructor
  · rintro ⟨y,hy,rfl⟩
    rw [(h.mem y.1 y.2).1 hy]
    rfl
  · intro e
    cases hm:m x with
    |none=>rw [hm] at e;cases e
    |some id=>exact ⟨(x,id),(h.mem x id).2 hm,rfl⟩
 rw [hx h,hx h']
section
variable {σ:Type} {K:SnkF σ} {M:Snk K} {P:PSnk K} {w w':World} {d:PD} {t t':PSt σ} {C C':Cu} {k k':Nat} {l l':List Spc}
theorem SW.cm_eq (h:SW M P w d t C k l) (h':SW M P w' d t' C' k' l') (hd:∀id,(∃s∈l,hasI s.m id) ↔ ∃s∈l',hasI s.m id):t.cm=t'.cm:=by
 have e1:∀{w:World} {t:PSt σ} {C:Cu} {k:Nat} {l:List Spc},SW M P w d t C k l→∀i:Int,(pgF (visP t.pm t.hole) (.int .i64 i)).isSome=(t.pm i).isSome:=fun {w t C k l} h i=>by
  show (((visP t.pm t.hole) i).map _).isSome=_
  rw [Option.isSome_map]
  unfold visP
  rw [h.pv.hole]
  simp
 exact cnt_gen h.pv.at_.mp h'.pv.at_.mp (pgF_int _) (pgF_int _) fun i=>by rw [e1 h,e1 h',h.dom i,h'.dom i,hd i]
theorem SW.twice {s s2:Spc} (h:SW M P w d t C k (s2::s::l)) (hm:s2.m=s.m) {i id:Int} {b:Bytes} {u:Int} (hi:s2.m i=some id) (hc:C id=some (b,u)):1<u:=by
 have hu:=(h.us.got hc).1
 rw [hu]
 have h1:hasI s2.m id:=⟨i,hi⟩
 have h2:hasI s.m id:=by rw [←hm];exact h1
 rw [List.map_cons,List.map_cons,cntI_yes h1,cntI_yes h2]
 omega
end
theorem slots_shared {s:Spc} {C C':Cu} {m':Pm} {N a:Nat} {b:UInt8} {n n':Nat} {X Y:List (Int×Int)} (h:StW s C C' m' N a [b]) (hX:SlOf s.m n X) (hY:SlOf m' n' Y) (hu:∀i id b u,s.m i=some id→C id=some (b,u)→1<u) (hid:∀i id,s.m i=some id→id<(N:Int)) (hz:0<s.D.pg):
 (∀y∈Y,(y∈X ↔ ¬y.1=((a / s.D.pg:Nat):Int)))∧∃y∈Y,y.1=((a / s.D.pg:Nat):Int):=by
 obtain ⟨id,he,hN⟩:=h.shr a (Nat.le_refl _) (by simp) (fun id b u=>hu _ id b u)
 refine ⟨fun y hy=>?_,⟨_,(hY.mem _ _).2 he,rfl⟩⟩
 have hm:=(hY.mem y.1 y.2).1 hy
 constructor
 · intro hx e
   have h1:=(hX.mem y.1 y.2).1 hx
   have h2:=hid _ _ h1
   rw [e,he] at hm
   injection hm with hm
   omega
 · intro hne
   rcases h.new y.1 with e|⟨⟨j,j1,j2,j3⟩,_⟩
   · rw [hm] at e
     exact (hX.mem y.1 y.2).2 e.symm
   · have:j=a:=by simp at j2;omega
     subst this
     exact absurd j3.symm hne
end Go.Proofs.YtlhfjaagkgengaaGreat
