/- The world of almanaclaw16: spaces by pid on one pager, the document's machine beside them. almanaclaw16: same. almanaclaw16: one operation of one space, and the document's. -/
import Derived.Test.YtlhfjaagkgengaaGreatPB45
namespace Go.Proofs.YtlhfjaagkgengaaGreat
open Go.RowKit Go.Maps
set_option linter.unusedVariables false
set_option linter.unusedSimpArgs false
structure WD where
 W:Nat
 S:Nat
 d:PD
 D:MaD
 A:Option Addr
 cap:Nat
def WD.rv (o:WD):Value:=.slice o.A o.D.n o.cap
def WD.ro (o:WD) (q:Nat):Prop:=q=o.W∨o.rv.ownBlock=some q
structure WB (w0 w:World) (o:WD) (t:PSt ShS) (C:Cu) (k:Nat) (l:List Spc) (P:List (Option MPr)) (Q:List (Option Nat)):Prop where
 lw:LW o.S w0 w o.d t C k l
 ma:MaAt w o.D P
 row:OwE psE 0 w o.rv Q
 lQ:Q.length=o.D.n
 cc:∀i,i<9→w.cell? ⟨o.W,i,none⟩=some (.int .i64 (o.D.cf i))
 c9:w.cell? ⟨o.W,9,none⟩=some (.pointer (some ⟨o.d.Q,0,none⟩))
 c10:w.cell? ⟨o.W,10,none⟩=some (.pointer (some ⟨o.D.X,0,none⟩))
 c11:w.cell? ⟨o.W,11,none⟩=some o.rv
 neW:o.rv.ownBlock≠some o.W
 s1:∀q,maO o.D P q→¬swO o.d t l q∧¬o.ro q
 s2:∀q,o.ro q→¬swO o.d t l q
 new:∀q,maO o.D P q∨o.ro q→w0.heap.size≤q
section
variable {w0 w w' w1 w2:World} {o:WD} {t t':PSt ShS} {C C':Cu} {k k':Nat} {l l':List Spc} {P P':List (Option MPr)} {Q:List (Option Nat)} {T:Nat→Prop}
theorem WB.ltW (h:WB w0 w o t C k l P Q):o.W<w.heap.size:=lt_of_cell h.c9
theorem WB.ltR (h:WB w0 w o t C k l P Q) {q:Nat} (hq:o.ro q):q<w.heap.size:=by
 rcases hq with rfl|e
 · exact h.ltW
 · exact (h.row.lt e).2
theorem WB.bel (h:WB w0 w o t C k l P Q):Below w0.heap.size w0 w:=h.lw.bel
def wO (o:WD) (t:PSt ShS) (l:List Spc) (P:List (Option MPr)) (q:Nat):Prop:=swO o.d t l q∨maO o.D P q∨o.ro q
theorem WB.lt (h:WB w0 w o t C k l P Q) {q:Nat} (hq:wO o t l P q):q<w.heap.size:=by
 rcases hq with e|e|e
 · exact h.lw.sw.lt e
 · exact h.ma.lt e
 · exact h.ltR e
theorem WB.up (h:WB w0 w o t C k l P Q) (hb:Below w.heap.size w w'):WB w0 w' o t C k l P Q:=by
 have ho:=Off.of_below (S:=fun _=>False) hb
 have lW:=h.ltW
 exact ⟨h.lw.up hb,h.ma.up hb,h.row.up hb,h.lQ,fun i hi=>(ho.cell (p:=⟨o.W,i,none⟩) lW id).trans (h.cc i hi),(ho.cell (p:=⟨o.W,9,none⟩) lW id).trans h.c9,(ho.cell (p:=⟨o.W,10,none⟩) lW id).trans h.c10,(ho.cell (p:=⟨o.W,11,none⟩) lW id).trans h.c11,h.neW,h.s1,h.s2,h.new⟩
theorem WB.less (h:WB w0 w o t C k l P Q) (hk:k'≤k):WB w0 w o t C k' l P Q:=⟨h.lw.less hk,h.ma,h.row,h.lQ,h.cc,h.c9,h.c10,h.c11,h.neW,h.s1,h.s2,h.new⟩
theorem WB.perm (h:WB w0 w o t C k l P Q) (hp:l.Perm l'):WB w0 w o t C k l' P Q:=
 ⟨h.lw.perm hp,h.ma,h.row,h.lQ,h.cc,h.c9,h.c10,h.c11,h.neW,fun q hq=>⟨fun e=>(h.s1 q hq).1 ((swO_perm hp).2 e),(h.s1 q hq).2⟩,fun q hq e=>h.s2 q hq ((swO_perm hp).2 e),h.new⟩
theorem WB.sw (h:WB w0 w o t C k l P Q) (hl:LW o.S w0 w' o.d t' C' k' l') (hn:SwN shP w w' o.d t t' l l'):WB w0 w' o t' C' k' l' P Q:=by
 have lW:=h.ltW
 have nW:=h.s2 o.W (.inl rfl)
 have keep:∀q,q<w.heap.size→¬swO o.d t l q→¬swO o.d t' l' q:=fun q h1 h2=>(hn.keep h1 h2).2
 exact ⟨hl,h.ma.off hn.off fun q hq=>(h.s1 q hq).1,h.row.off hn.off fun q e=>h.s2 q (.inr e),h.lQ,fun i hi=>(hn.off.cell (p:=⟨o.W,i,none⟩) lW nW).trans (h.cc i hi),(hn.off.cell (p:=⟨o.W,9,none⟩) lW nW).trans h.c9,(hn.off.cell (p:=⟨o.W,10,none⟩) lW nW).trans h.c10,(hn.off.cell (p:=⟨o.W,11,none⟩) lW nW).trans h.c11,h.neW,
  fun q hq=>⟨keep q (h.ma.lt hq) (h.s1 q hq).1,(h.s1 q hq).2⟩,fun q hq=>keep q (h.ltR hq) (h.s2 q hq),h.new⟩
theorem WB.mach (h:WB w0 w o t C k l P Q) (hm:MaAt w' o.D P') (hn:MaN w w' o.D P P'):WB w0 w' o t C k l P' Q:=by
 have lW:=h.ltW
 have hz:=h.bel.size
 have nm:∀q,o.ro q→¬maO o.D P q:=fun q hq e=>(h.s1 q e).2 hq
 have nW:=nm o.W (.inl rfl)
 refine ⟨h.lw.off hn.off (fun q hq=>(h.s1 q hq).1) (fun q hq=>h.new q (.inl hq)),hm,h.row.off hn.off fun q e=>nm q (.inr e),h.lQ,fun i hi=>(hn.off.cell (p:=⟨o.W,i,none⟩) lW nW).trans (h.cc i hi),(hn.off.cell (p:=⟨o.W,9,none⟩) lW nW).trans h.c9,(hn.off.cell (p:=⟨o.W,10,none⟩) lW nW).trans h.c10,(hn.off.cell (p:=⟨o.W,11,none⟩) lW nW).trans h.c11,h.neW,fun q hq=>?_,h.s2,fun q hq=>?_⟩
 · rcases hn.own q hq with e|e
   · exact h.s1 q e
   · exact ⟨fun e2=>by have:=h.lw.sw.lt e2;omega,fun e2=>by have:=h.ltR e2;omega⟩
 · rcases hq with hq|hq
   · rcases hn.own q hq with e|e
     · exact h.new q (.inl e)
     · omega
   · exact h.new q (.inr hq)
theorem WB.setQ (h:WB w0 w o t C k l P Q) {g:Nat} (hg:o.A=some ⟨g,0,none⟩) (hn:0<o.D.n) (j:Nat) (x:Option Nat):WB w0 (w.setCell ⟨g,j,none⟩ (.pointer (x.map fun g=>⟨g,0,none⟩))) o t C k l P (Q.set j x):=by
 have hown:o.rv.ownBlock=some g:=by unfold WD.rv;rw [hg];rfl
 have hbo:=h.row
 unfold WD.rv at hbo
 rw [hg] at hbo
 obtain ⟨h1,h2⟩:=OwE.set1 hbo rfl j x (u:=.pointer (x.map fun g=>⟨g,0,none⟩)) rfl
 have lW:=h.ltW
 have nW:¬o.W=g:=fun e=>h.neW (by rw [hown,e])
 have nm:∀q,maO o.D P q→¬q=g:=fun q hq e=>(h.s1 q hq).2 (.inr (by rw [e];exact hown))
 have ns:∀q,q=g→¬swO o.d t l q:=fun q e=>h.s2 q (.inr (by rw [e];exact hown))
 refine ⟨h.lw.off h2 ns (fun q e=>h.new q (.inr (.inr (by rw [e];exact hown)))),h.ma.off h2 nm,?_,by rw [List.length_set];exact h.lQ,fun i hi=>(h2.cell (p:=⟨o.W,i,none⟩) lW nW).trans (h.cc i hi),(h2.cell (p:=⟨o.W,9,none⟩) lW nW).trans h.c9,(h2.cell (p:=⟨o.W,10,none⟩) lW nW).trans h.c10,(h2.cell (p:=⟨o.W,11,none⟩) lW nW).trans h.c11,h.neW,h.s1,h.s2,h.new⟩
 unfold WD.rv
 rw [hg]
 exact h1
end
def lS (sp:List (Option Spc)):List Spc:=sp.filterMap id
def qS (sp:List (Option Spc)):List (Option Nat):=sp.map (Option.map fun s=>s.D.X)
section
variable {sp:List (Option Spc)} {s s':Spc} {k:Nat}
theorem lS_mem:s∈lS sp ↔ some s∈sp:=by
 unfold lS
 rw [List.mem_filterMap]
 constructor
 · rintro ⟨x,hx,e⟩
   have e':x=some s:=e
   rw [←e'];exact hx
 · intro h
   exact ⟨some s,h,rfl⟩
theorem lS_out:∀{sp:List (Option Spc)} {k:Nat},sp[k]? =some (some s)→(lS sp).Perm (s::lS (sp.set k none))
 |[],k,h=>by simp at h
 | x::sp,0,h=>by
   simp at h
   subst h
   exact List.Perm.refl _
 | x::sp,k+1,h=>by
   have ih:=lS_out (sp:=sp) (k:=k) (by simpa using h)
   cases x with
   |none=>exact ih
   |some y=>exact (ih.cons y).trans (List.Perm.swap _ _ _)
theorem lS_in:∀{sp:List (Option Spc)} {k:Nat},k<sp.length→(lS (sp.set k (some s))).Perm (s::lS (sp.set k none))
 |[],k,h=>by simp at h
 |x::sp,0,h=>List.Perm.refl _
 | x::sp,k+1,h=>by
   have ih:=lS_in (sp:=sp) (k:=k) (by simpa using h)
   cases x with
   |none=>exact ih
   |some y=>exact (ih.cons y).trans (List.Perm.swap _ _ _)
theorem lS_none (h:sp[k]? =some none):sp.set k none=sp:=by
 apply List.ext_getElem?
 intro i
 rw [List.getElem?_set]
 split
 · rename_i e
   subst e
   rw [h]
   split
   · rfl
   · rename_i h2
     rw [List.getElem?_eq_none (by omega)] at h
     cases h
 · rfl
theorem qS_at (h:sp[k]? =some (some s)):(qS sp)[k]? =some (some s.D.X):=by unfold qS;rw [List.getElem?_map,h];rfl
theorem qS_none (h:sp[k]? =some none):(qS sp)[k]? =some none:=by unfold qS;rw [List.getElem?_map,h];rfl
theorem qS_set (x:Option Spc):qS (sp.set k x)=(qS sp).set k (x.map fun s=>s.D.X):=by unfold qS;rw [List.map_set]
theorem qS_same (h:sp[k]? =some (some s)) (e:s'.D.X=s.D.X):qS (sp.set k (some s'))=qS sp:=by
 rw [qS_set]
 apply List.ext_getElem?
 intro i
 rw [List.getElem?_set]
 split
 · rename_i e2
   subst e2
   rw [qS_at h]
   split
   · rw [Option.map_some,e]
   · rename_i h2
     rw [show (qS sp).length=sp.length by simp [qS]] at h2
     rw [List.getElem?_eq_none (by omega)] at h
     cases h
 · rfl
end
def ShOk (D:MaD) (s:Spc):Prop:=s.D.cf=D.cf∧s.D.pg=D.z∧s.D.rg=D.rg∧s.D.ps=D.ps
structure WR (D:MaD) (C:Cu) (sp:List (Option Spc)) (P:MaP):Prop where
 len:sp.length=P.length
 gone:∀i:Nat,P[i]? =some none→sp[i]? =some none
 held:∀(i:Nat) (p:PrP),P[i]? =some (some p)→∃s,sp[i]? =some (some s)∧PgRel s C p∧ShOk D s
structure WS (w0 w:World) (o:WD) (t:PSt ShS) (C:Cu) (k U:Nat) (sp:List (Option Spc)) (P:List (Option MPr)):Prop where
 b:WB w0 w o t C k (lS sp) P (qS sp)
 r:WR o.D C sp (plP P)
 few:∀p,some p∈plP P→p.L.length≤U
section
variable {D:MaD} {C C':Cu} {sp:List (Option Spc)} {P:MaP} {s s':Spc} {p p':PrP} {k j:Nat}
theorem WR.at_ (h:WR D C sp P) (hs:sp[k]? =some (some s)):∃p,P[k]? =some (some p)∧PgRel s C p∧ShOk D s:=by
 have hk:=(List.getElem?_eq_some_iff.1 hs).1
 rw [h.len] at hk
 cases hp:P[k] with
 | none=>
   have:=h.gone k (by rw [List.getElem?_eq_getElem hk,hp])
   rw [hs] at this;cases this
 | some p=>
   have hp':P[k]? =some (some p):=by rw [List.getElem?_eq_getElem hk,hp]
   obtain ⟨s2,h1,h2,h3⟩:=h.held k p hp'
   rw [hs] at h1
   cases h1
   exact ⟨p,hp',h2,h3⟩
theorem WR.put (h:WR D C sp P) (hk:k<sp.length) (hr:PgRel s' C' p') (hd:ShOk D s') (ho:∀x,x∈lS (sp.set k none)→x.mem C'=x.mem C):WR D C' (sp.set k (some s')) (P.set k (some p')):=by
 have hkP:k<P.length:=by rw [←h.len];exact hk
 refine ⟨by rw [List.length_set,List.length_set];exact h.len,fun i hi=>?_,fun i p hp=>?_⟩
 · rw [List.getElem?_set] at hi ⊢
   by_cases e:k=i
   · rw [if_pos e,if_pos hkP] at hi;cases hi
   · rw [if_neg e] at hi ⊢
     exact h.gone i hi
 · rw [List.getElem?_set] at hp ⊢
   by_cases e:k=i
   · rw [if_pos e,if_pos hkP] at hp
     cases hp
     rw [if_pos e,if_pos hk]
     exact ⟨s',rfl,hr,hd⟩
   · rw [if_neg e] at hp ⊢
     obtain ⟨s2,h1,h2,h3⟩:=h.held i p hp
     refine ⟨s2,h1,h2.mem (ho s2 (lS_mem.2 (List.mem_of_getElem? (i:=i) ?_))),h3⟩
     rw [List.getElem?_set,if_neg e]
     exact h1
theorem WR.del (h:WR D C sp P) (ho:∀x,x∈lS (sp.set k none)→x.mem C'=x.mem C):WR D C' (sp.set k none) (P.set k none):=by
 refine ⟨by rw [List.length_set,List.length_set];exact h.len,fun i hi=>?_,fun i p hp=>?_⟩
 · rw [List.getElem?_set] at hi ⊢
   by_cases e:k=i
   · rw [if_pos e] at hi ⊢
     rw [h.len]
     split at hi
     · rename_i e2;rw [if_pos e2]
     · cases hi
   · rw [if_neg e] at hi ⊢
     exact h.gone i hi
 · rw [List.getElem?_set] at hp
   by_cases e:k=i
   · rw [if_pos e] at hp
     split at hp<;>cases hp
   · rw [if_neg e] at hp
     obtain ⟨s2,h1,h2,h3⟩:=h.held i p hp
     have h1':(sp.set k none)[i]? =some (some s2):=by rw [List.getElem?_set,if_neg e];exact h1
     exact ⟨s2,h1',h2.mem (ho s2 (lS_mem.2 (List.mem_of_getElem? h1'))),h3⟩
theorem WR.same (h:WR D C sp P) (ho:∀x,x∈lS sp→x.mem C'=x.mem C):WR D C' sp P:=
 ⟨h.len,h.gone,fun i p hp=>by
  obtain ⟨s2,h1,h2,h3⟩:=h.held i p hp
  exact ⟨s2,h1,h2.mem (ho s2 (lS_mem.2 (List.mem_of_getElem? h1))),h3⟩⟩
end
section
variable {w0 w w' w1 w2:World} {o:WD} {t t':PSt ShS} {C C':Cu} {kk k:Nat} {l l':List Spc} {P P':List (Option MPr)} {Q:List (Option Nat)} {s:Spc} {p:MPr}
theorem MaF.npos {D:MaD} {B:List Bool} {Q:List (Option Nat)} (h:MaF w D B Q):1≤D.n∧D.n≤64:=by
 obtain ⟨_,h2,_,_⟩:=h.good
 have:=h.en
 omega
theorem WB.rAt (h:WB w0 w o t C kk l P Q):∃g,o.A=some ⟨g,0,none⟩∧g<w.heap.size∧(∀i x,Q[i]? =some x→w.cell? ⟨g,i,none⟩=some (.pointer (x.map fun g=>⟨g,0,none⟩)))∧∀i,w.frozen? ⟨g,i,none⟩=false:=by
 have hb:=h.row
 have hn:=h.ma.f.npos
 unfold WD.rv at hb
 rcases OwE.cases hb with ⟨_,h1,_⟩|⟨g,hg⟩
 · omega
 rw [hg] at hb
 have hlt:=(OwE.lt hb (k:=g) rfl).2
 refine ⟨g,hg,hlt,fun i x hx=>?_,fun i=>?_⟩
 · have hl:0<Q.length:=by have:=(List.getElem?_eq_some_iff.1 hx).1;omega
   obtain ⟨g',o',e,_,hc⟩:=hb.rg.at_ hl
   cases e
   have:=hc i x hx 0 _ rfl
   rw [show psE.k=1 from rfl,Nat.mul_one,Nat.zero_add,Nat.add_zero] at this
   exact this
 · have hl:=h.lQ
   rw [←hl] at hb
   exact World.ownsRow.frozenAt hb i
theorem pgL_len (h:PrAt w o.D.z p):p.pl.L.length=p.L.length:=by unfold MPr.pl;simp
set_option maxRecDepth 100000 in
set_option maxHeartbeats 4000000 in
theorem same16 (h:WB w0 w o t C kk l P Q) (hs:s∈l) (hQ:Q[k]? =some (some s.D.X)) (hP:P[k]? =some (some p)) (hr:PgRel s C p.pl) (hn:p.L.length≤100000):
 Calls Tryz.prog 73 #[.pointer (some ⟨o.W,0,none⟩),.int .i64 (k:Nat)] w fun e w'=>e=.returned (.bool true)∧Below w.heap.size w w':=by
 have HS:=h.lw.sw.ss s hs
 have hcnt:s.n=p.L.length:=by rw [hr.cnt HS.sp,pgL_len (h.ma.get hP)]
 have hL:s.L=p.R:=hr.R
 have hRL:p.R.length≤10000:=by rw [←hL];exact HS.len
 have HSP:=hJ HS.sp
 have hp:=h.ma.get hP
 have HP:=hJ hp
 have HREL:=hJ hr
 obtain ⟨g,hg,lg,hcg,fg⟩:=h.rAt
 obtain ⟨gp,hgp,lgp,hcgp,fgp⟩:=h.ma.f.qAt
 have r1:=hcg k _ hQ
 have r2:=hcgp k (some p.X) (by rw [List.getElem?_map,hP];rfl)
 have lQ:=h.lQ
 have hk:k<o.D.n:=by rw [←lQ];exact (List.getElem?_eq_some_iff.1 hQ).1
 have hn64:=h.ma.f.npos
 have lW:=h.ltW
 have c10:=h.c10
 have c11:=h.c11
 have m10:=h.ma.f.c10
 have lX:=h.ma.f.ltX
 unfold WD.rv at c11
 unfold MaD.qv at m10
 rw [hg] at c11
 rw [hgp] at m10
 have p0:=hp.c0
 have p1:=hp.c1
 have lp:=hp.ltX
 unfold MPr.rv at p0
 unfold MPr.lv at p1
 simp only [Option.map_some] at r1 r2
 have HK:Hid (∀V,Below w.heap.size w V→V.cell? ⟨o.W,10,none⟩=some (.pointer (some ⟨o.D.X,0,none⟩))∧V.cell? ⟨o.W,11,none⟩=some (.slice (some ⟨g,0,none⟩) o.D.n o.cap)∧V.cell? ⟨o.D.X,10,none⟩=some (.slice (some ⟨gp,0,none⟩) o.D.n o.D.Qc)∧V.cell? ⟨g,k,none⟩=some (.pointer (some ⟨s.D.X,0,none⟩))∧V.cell? ⟨gp,k,none⟩=some (.pointer (some ⟨p.X,0,none⟩))∧V.cell? ⟨p.X,0,none⟩=some (.slice p.RA p.R.length p.Rc)∧V.cell? ⟨p.X,1,none⟩=some (.slice p.LA p.L.length p.Lc)):=hJ fun V hV=>
  ⟨(hV.cell (p:=⟨o.W,10,none⟩) lW).trans c10,(hV.cell (p:=⟨o.W,11,none⟩) lW).trans c11,(hV.cell (p:=⟨o.D.X,10,none⟩) lX).trans m10,(hV.cell (p:=⟨g,k,none⟩) lg).trans r1,(hV.cell (p:=⟨gp,k,none⟩) lgp).trans r2,(hV.cell (p:=⟨p.X,0,none⟩) lp).trans p0,(hV.cell (p:=⟨p.X,1,none⟩) lp).trans p1⟩
 have HRG:=hJ (fun (V:World) (hV:Below w.heap.size w V)=>regions_b (HSP.out.up hV) (by rw [hL];omega))
 have HSL:=hJ (fun (V:World) (hV:Below w.heap.size w V)=>slots_b (HSP.out.up hV) (by omega))
 have HWT:=hJ (fun (V:World) (hV:Below w.heap.size w V)=>weight_b (HSP.out.up hV) (by rw [hL];omega) (by omega))
 have HPR:=hJ (fun (V:World) (hV:Below w.heap.size w V)=>(HP.out.up hV).rg)
 have HPL:=hJ (fun (V:World) (hV:Below w.heap.size w V)=>(HP.out.up hV).pg)
 have HKS:Hid (∀l,SlOf s.m s.n l→l.map (·.1)=p.L.map fun x=>((x.n:Nat):Int)):=hJ fun l hl=>by
  rw [HREL.out.slots hl]
  unfold keysL MPr.pl
  simp only [List.map_map]
  rfl
 have HNN:Hid (∀l,SlOf s.m s.n l→l.length=s.n):=hJ fun l hl=>hl.len
 rw [hL] at HRG HWT
 rw [hcnt] at HWT
 rw [hcnt] at HSL HKS HNN
 obtain ⟨R,hR⟩:∃R,p.R=R:=⟨_,rfl⟩
 obtain ⟨L,hLL⟩:∃L,p.L=L:=⟨_,rfl⟩
 rw [hR] at HRG HWT HK HPR p0 hRL
 rw [hLL] at HWT HSL HK HPL HKS p1 hn HNN
 clear hcg hcgp h hr hp HS hs hQ hP hcnt hL hLL HSP HP HREL hg hgp lQ
 go_enter Tryz.func73,Tryz.ntmps73
 go_upto_region 2 with (fail)
 go_upto_region 3 with (go_at_call 24;refine (HRG.out _ (Below.refl _ _)).mono ?_;rintro e w1 ⟨A1,q1,rfl,hf1⟩;have HF1:=hJ hf1;clear hf1)
 clear c10 c11 m10 r1 r2 p0 p1
 obtain ⟨c10,c11,m10,r1,r2,p0,p1⟩:=HK.out _ HF1.out.2
 go_upto_region 4 with (go_at_call 19;refine (HSL.out _ HF1.out.2).mono ?_;rintro e w2 ⟨A2,q2,sl,hsl,rfl,hf2⟩;have HF2:=hJ hf2;have HSLO:=hJ hsl;clear hf2 hsl)
 have HB2:=hJ (HF1.out.2.trans (HF2.out.2.mono HF1.out.2.size))
 clear c10 c11 m10 r1 r2 p0 p1
 obtain ⟨c10,c11,m10,r1,r2,p0,p1⟩:=HK.out _ HB2.out
 have hz2:=HB2.out.size
 have lW2:o.W<w2.heap.size:=by omega
 have lg2:g<w2.heap.size:=by omega
 have lp2:p.X<w2.heap.size:=by omega
 have hsum:IntKind.i64.wrap ((R.length:Int)+(L.length:Int))=((R.length+L.length:Nat):Int):=by rw [IntWalk.i64_in _ (by omega)];omega
 go_upto_region 6 with (go_at_call 25;refine (HWT.out _ HB2.out).mono ?_;rintro e w3 ⟨rfl,hb3⟩;have KS:Hid (w3.cell? ⟨p.X,0,none⟩=some (.slice p.RA R.length p.Rc)∧w3.cell? ⟨p.X,1,none⟩=some (.slice p.LA L.length p.Lc)):=hJ ⟨(hb3.cell (p:=⟨p.X,0,none⟩) lp2).trans p0,(hb3.cell (p:=⟨p.X,1,none⟩) lp2).trans p1⟩;have HB3:=hJ hb3;clear hb3)
 all_goals
  have HB4:=hJ (HB2.out.trans (HB3.out.mono HB2.out.size))
  clear c10 c11 m10 r1 r2 p0 p1 hsum HK HRG HSL HWT lW lg lp lX lW2 lg2 lp2 fg fgp lgp hk hn64 hz2
  go_wp2
  go_loopw [8] (fun i wr=>∃j:Nat,j≤R.length∧i=.int .i64 (j:Nat)∧Below w3.heap.size w3 wr) (fun i _=>R.length-(intOf i).toNat)
  case atStart=>exact ⟨0,Nat.zero_le _,rfl,Below.refl _ _⟩
  case round=>
   obtain ⟨j,hj,rfl,hb⟩:=hrel
   have HBW:=hJ hb
   have HBA:=hJ (HB4.out.trans (hb.mono HB4.out.size))
   by_cases hjn:j<R.length
   · obtain ⟨x,hx⟩:∃x,R[j]? =some x:=⟨_,List.getElem?_eq_getElem hjn⟩
     have hr1:=((HF1.out.1.up HF2.out.2).up HB3.out).up hb
     obtain ⟨g1,o1,hA1,hg1,hc1⟩:=hr1.rg.at_ (by omega)
     obtain ⟨g2,o2,hA2,hg2,hc2⟩:=(HPR.out _ HBA.out).at_ (by omega)
     obtain ⟨x0,x1,x2⟩:=hc1 j x hx
     obtain ⟨y0,y1,y2⟩:=hc2 j x hx
     have hjI:(j:Int)<(R.length:Int):=by omega
     have heq:∀w,(Op.equalIn 10000 62 (.agg #[.int .i64 x.lo,.int .i64 x.hi,.int .i64 x.pr]) (.agg #[.int .i64 x.lo,.int .i64 x.hi,.int .i64 x.pr])).run Tryz.prog w=.ok true w:=fun w=>by
      rw [eq_rg x x];simp
     have k0:=(hb.cell (p:=⟨p.X,0,none⟩) (lt_of_cell KS.out.1)).trans KS.out.1
     rw [hA2] at k0
     have lp:=lt_of_cell k0
     obtain ⟨xl,xh,xp⟩:=x
     simp only at x0 x1 x2 y0 y1 y2 heq
     rw [hA1]
     clear hb hr1 hc1 hc2 hx hA1 hA2
     go_upto_region 9 with (fail)
     go_quiet (fail)
     go_wp2
     go_roundw
     case rel=>exact ⟨j+1,by omega,by go_num,below_drewN HBW.out _⟩
     case measure=>simp [intOf];omega
   · obtain rfl:j=R.length:=by omega
     have hjj:¬(R.length:Int)<(R.length:Int):=by omega
     clear hjn hb
     go_wp2
     have k1:=(HBW.out.cell (p:=⟨p.X,1,none⟩) (lt_of_cell KS.out.2)).trans KS.out.2
     go_loopw [9] (fun i wx=>∃j:Nat,j≤L.length∧i=.int .i64 (j:Nat)∧Below wr.heap.size wr wx) (fun i _=>L.length-(intOf i).toNat)
     case atStart=>exact ⟨0,Nat.zero_le _,rfl,Below.refl _ _⟩
     case round=>
      obtain ⟨j,hj,rfl,hb⟩:=hrel
      have HBX:=hJ hb
      have HBE:=hJ (HBA.out.trans (hb.mono HBA.out.size))
      by_cases hjn:j<L.length
      · obtain ⟨x,hx⟩:∃x,L[j]? =some x:=⟨_,List.getElem?_eq_getElem hjn⟩
        have hsl:=HNN.out sl HSLO.out
        obtain ⟨y,hy⟩:∃y,sl[j]? =some y:=⟨_,List.getElem?_eq_getElem (by omega)⟩
        have hxy:y.1=((x.n:Nat):Int):=by
         have e:=congrArg (fun l=>l[j]?) (HKS.out sl HSLO.out)
         simp only [List.getElem?_map,hx,hy,Option.map_some] at e
         exact Option.some.inj e
        have hr1:=((HF2.out.1.up HB3.out).up HBW.out).up hb
        obtain ⟨g1,o1,hA1,hg1,hc1⟩:=hr1.rg.at_ (by omega)
        obtain ⟨g2,o2,hA2,hg2,hc2⟩:=(HPL.out _ HBE.out).at_ (by omega)
        obtain ⟨x0,_⟩:=EAt.sl hc1 hy
        have y0:=hc2 j x hx 0 _ rfl
        change wr.cell? ⟨g2,o2+j*2+0,none⟩=some (.int .i64 (x.n:Nat)) at y0
        rw [Nat.add_zero] at y0
        rw [hxy] at x0
        obtain ⟨m,hm⟩:∃m,x.n=m:=⟨_,rfl⟩
        rw [hm] at x0 y0
        have hjI:(j:Int)<(L.length:Int):=by omega
        have k2:=(hb.cell (p:=⟨p.X,1,none⟩) (lt_of_cell k1)).trans k1
        rw [hA2] at k2
        have lp:=lt_of_cell k2
        rw [hA1]
        clear hb hr1 hc1 hc2 hx hA1 hA2 hy hsl hxy hm k1
        go_upto_region 14 with (fail)
        go_quiet (fail)
        go_wp2
        go_roundw
        case rel=>exact ⟨j+1,by omega,by go_num,below_drewN HBX.out _⟩
        case measure=>simp [intOf];omega
      · obtain rfl:j=L.length:=by omega
        have hjj2:¬(L.length:Int)<(L.length:Int):=by omega
        clear hjn hb
        go_wp2
        go_ret
        exact ⟨rfl,HBE.out⟩
end
def regP (p:PrP) (r:List Rg×Int) (L:PgL):PrP×Int×Bytes:=if r.2=0 then (⟨r.1,L⟩,0,[]) else (p,r.2,[])
def opP (S:SpD) (p:PrP) (o:OpP):PrP×Int×Bytes:=
 if o.kind=2 then regP p (mappedF S p.R o.at_ o.n o.prot) p.L
 else if o.kind=3 then regP p (unmappedF S p.R o.at_ o.n) (p.L.filter fun q=>keepU o.at_ o.n q.1)
 else if o.kind=4 then regP p (protectedF S p.R o.at_ o.n o.prot) p.L
 else if o.kind=5 then (p,checkF S p.R o.at_ o.n 1,if checkF S p.R o.at_ o.n 1=0 then ldN S.pg p.L o.at_.toNat o.n.toNat else [])
 else if checkF S p.R o.at_ (o.data.length:Nat) 2=0 then (⟨p.R,stL S.pg p.L o.at_.toNat o.data⟩,0,[]) else (p,checkF S p.R o.at_ (o.data.length:Nat) 2,[])
theorem set_back {E:Type} {l:List E} {k:Nat} {x:E} (h:l[k]? =some x):l.set k x=l:=by
 apply List.ext_getElem?
 intro i
 rw [List.getElem?_set]
 split
 · rename_i e
   subst e
   rw [h,if_pos (List.getElem?_eq_some_iff.1 h).1]
 · rfl
theorem doF_op {S:SpD} {P:MaP} {o:OpP} {k:Nat} {p:PrP} (hr:o.right=true) (hk:o.kind=2∨o.kind=3∨o.kind=4∨o.kind=5∨o.kind=6) (hp:o.pid=(k:Nat)) (hg:P[k]? =some (some p)):
 doF S P o=(P.set k (some (opP S p o).1),⟨(opP S p o).2.1,0,(opP S p o).2.2,[]⟩):=by
 have hget:getP P o.pid=some p:=by
  unfold getP
  rw [hp,if_pos (by omega),Int.toNat_natCast,hg]
  rfl
 have hset:P.set k (some p)=P:=set_back hg
 have hc:chkF S P o=if o.kind=5 then checkF S p.R o.at_ o.n 1 else if o.kind=6 then checkF S p.R o.at_ (o.data.length:Nat) 2 else (regF S p.R o.kind o.at_ o.n o.prot).2:=by
  unfold chkF
  rw [if_neg (by rw [hr];simp),if_neg (by omega),if_neg (by omega),hget]
  simp only
  by_cases h5:o.kind=5
  · rw [if_pos h5,if_pos h5]
  · rw [if_neg h5,if_neg h5]
    by_cases h6:o.kind=6
    · rw [if_pos h6,if_pos h6]
    · rw [if_neg h6,if_neg h6,if_neg (by omega),if_neg (by omega)]
 unfold doF
 rw [hc,hget]
 simp only
 have hto:o.pid.toNat=k:=by rw [hp];rfl
 rw [hto]
 obtain ⟨kind,pid,at_,n,prot,data⟩:=o
 simp only at hk hp ⊢
 rcases hk with rfl|rfl|rfl|rfl|rfl
 · have e:(regF S p.R 2 at_ n prot)=mappedF S p.R at_ n prot:=rfl
   simp only [e,opP,doPr,regP]
   by_cases hz:(mappedF S p.R at_ n prot).2=0<;>simp [hz,hset]
 · have e:(regF S p.R 3 at_ n prot)=unmappedF S p.R at_ n:=rfl
   simp only [e,opP,doPr,regP]
   by_cases hz:(unmappedF S p.R at_ n).2=0<;>simp [hz,hset]
 · have e:(regF S p.R 4 at_ n prot)=protectedF S p.R at_ n prot:=rfl
   simp only [e,opP,doPr,regP]
   by_cases hz:(protectedF S p.R at_ n prot).2=0<;>simp [hz,hset]
 · simp only [opP,doPr]
   by_cases hz:checkF S p.R at_ n 1=0<;>simp [hz,hset]
 · simp only [opP,doPr]
   by_cases hz:checkF S p.R at_ (data.length:Nat) 2=0<;>simp [hz,hset]
section
variable {w0 w w' w1 w2:World} {o:WD} {t t':PSt ShS} {C C':Cu} {kk k:Nat} {l l':List Spc} {P P':List (Option MPr)} {Q:List (Option Nat)} {s:Spc} {p:PrP}
theorem ShOk.map (h:ShOk o.D s) (L:List Rg) (a n q:Int):mappedF s.D L a n q=mappedF o.D.sd L a n q:=by
 obtain ⟨h1,h2,h3,h4⟩:=h
 unfold mappedF pagesB fitF
 rw [h3,h4]
 rfl
theorem ShOk.unmap (h:ShOk o.D s) (L:List Rg) (a n:Int):unmappedF s.D L a n=unmappedF o.D.sd L a n:=by
 obtain ⟨h1,h2,h3,h4⟩:=h
 unfold unmappedF pagesB fitF
 rw [h3,h4]
 rfl
theorem ShOk.prot (h:ShOk o.D s) (L:List Rg) (a n q:Int):protectedF s.D L a n q=protectedF o.D.sd L a n q:=by
 obtain ⟨h1,h2,h3,h4⟩:=h
 unfold protectedF pagesB fitF
 rw [h3,h4]
 rfl
theorem ShOk.check (h:ShOk o.D s) (L:List Rg) (a n q:Int):checkF s.D L a n q=checkF o.D.sd L a n q:=by
 obtain ⟨h1,h2,h3,h4⟩:=h
 unfold checkF
 rw [h2,h4]
 rfl
def DeR (w0 w:World) (t:PSt ShS) (o:WD) (C:Cu) (kk:Nat) (s:Spc) (l:List Spc) (P:List (Option MPr)) (Q:List (Option Nat)) (p':PrP) (w':World):Prop:=
 ∃t' C' s',WB w0 w' o t' C' kk (s'::l) P Q∧s'.D=s.D∧PgRel s' C' p'∧(∀x∈l,x.mem C'=x.mem C)∧Off (swO o.d t (s::l)) w w'
def DePost (w0 w:World) (t:PSt ShS) (o:WD) (C:Cu) (kk:Nat) (s:Spc) (l:List Spc) (P:List (Option MPr)) (Q:List (Option Nat)) (r:PrP×Int×Bytes) (e:Ending) (w':World):Prop:=
 e=.returned (.int .i64 r.2.1)∧r.2.2=[]∧DeR w0 w t o C kk s l P Q r.1 w'
theorem regP_len (p:PrP) (r:List Rg×Int) (L:PgL):(regP p r L).2.2=[]∧(regP p r L).2.1=r.2:=by
 unfold regP
 split
 · rename_i h;exact ⟨rfl,h.symm⟩
 · exact ⟨rfl,rfl⟩
theorem WB.rs (h:WB w0 w o t C kk (s::l) P Q) (hr:PgRel s C p) {R:List Rg×Int} {e:Ending} (hz:R.2=0→RgsOk s.D R.1∧∀x,findB s.L x=true→findB R.1 x=true) (hp:RsPost (shM o.S) shP w o.d t C kk s.D s.A s.cap s.L s.m s.n R e w'):DePost w0 w t o C kk s l P Q (regP p R p.L) e w':=by
 obtain ⟨he,A',cap',h1,h2⟩:=h.lw.sw.regs hp
 obtain ⟨e1,e2⟩:=regP_len p R p.L
 refine ⟨by rw [e2];exact he,e1,t,C,_,h.sw (h.lw.go h1 h2) h2,rfl,?_,fun _ _=>rfl,h2.off⟩
 unfold regP
 by_cases c:R.2=0
 · rw [if_pos c,if_pos c]
   obtain ⟨g1,g2⟩:=hz c
   exact hr.regs g1 g2
 · rw [if_neg c,if_neg c]
   have:=hr.regs (A:=A') (cap:=cap') hr.rgs (fun _=>id)
   rw [show (⟨s.L,p.L⟩:PrP)=p by rw [hr.R]] at this
   exact this
theorem WB.map (h:WB w0 w o t C kk (s::l) P Q) (hr:PgRel s C p) (hd:ShOk o.D s) (a n q:Int):
 Calls Tryz.prog 16 #[.pointer (some ⟨s.D.X,0,none⟩),.int .i64 a,.int .i64 n,.int .i64 q] w (DePost w0 w t o C kk s l P Q (regP p (mappedF o.D.sd p.R a n q) p.L)):=by
 have g:=h.lw.sw.ss s List.mem_cons_self
 refine (ssMap_b g a n q (fun h1 _ h3=>map_dist hr.rgs g.ok h1 h3)).mono ?_
 intro e w' hp
 rw [←hr.R,←hd.map]
 exact h.rs hr (fun hz=>map_right hr.rgs hz) hp
theorem WB.prot (h:WB w0 w o t C kk (s::l) P Q) (hr:PgRel s C p) (hd:ShOk o.D s) (a n q:Int):
 Calls Tryz.prog 118 #[.pointer (some ⟨s.D.X,0,none⟩),.int .i64 a,.int .i64 n,.int .i64 q] w (DePost w0 w t o C kk s l P Q (regP p (protectedF o.D.sd p.R a n q) p.L)):=by
 have g:=h.lw.sw.ss s List.mem_cons_self
 refine (ssProt_b g a n q (fun h1 _ _=>prot_dist hr.rgs g.ok h1)).mono ?_
 intro e w' hp
 rw [←hr.R,←hd.prot]
 exact h.rs hr (fun hz=>prot_right hr.rgs hz) hp
theorem WB.unmap (h:WB w0 w o t C kk (s::l) P Q) (hr:PgRel s C p) (hd:ShOk o.D s) (a n:Int):
 Calls Tryz.prog 117 #[.pointer (some ⟨s.D.X,0,none⟩),.int .i64 a,.int .i64 n] w (DePost w0 w t o C kk s l P Q (regP p (unmappedF o.D.sd p.R a n) (p.L.filter fun q=>keepU a n q.1))):=by
 have g:=h.lw.sw.ss s List.mem_cons_self
 refine (h.lw.sw.unmap hr.rg a n).mono ?_
 rintro e w' ⟨he,t',C',A',cap',L',m',n',h1,h2,h3,h4,hc⟩
 rw [←hr.R,←hd.unmap]
 obtain ⟨e1,e2⟩:=regP_len p (unmappedF s.D s.L a n) (p.L.filter fun q=>keepU a n q.1)
 refine ⟨by rw [e2];exact he,e1,t',C',_,h.sw (h.lw.go h1 h2) h2,rfl,?_,h4,h2.off⟩
 unfold regP
 rcases hc with ⟨c,rfl,c2⟩|⟨c,rfl,rfl,rfl⟩
 · rw [if_pos c]
   obtain ⟨g1,g2,g3⟩:=unmap_right hr.rgs c
   exact hr.unmap g.ok g1 g3 c2
 · rw [if_neg c]
   have:=hr.regs (A:=A') (cap:=cap') hr.rgs (fun _=>id)
   rw [show (⟨s.L,p.L⟩:PrP)=p by rw [hr.R]] at this
   exact ⟨this.R,this.ok,this.dom,this.ld,⟨this.rg.right,this.rg.len,this.rg.has,this.rg.rng⟩⟩
theorem WB.store {bA:Option Addr} {bc:Nat} {bs:Bytes} (h:WB w0 w o t C (kk+2*bs.length) (s::l) P Q) (hr:PgRel s C p) (hd:ShOk o.D s) (a:Int) (hS:SBy w bA bs.length bs) (hbc:bs.length≤bc) (hbn:bs.length≤9223372036854775807) (hV:VIn (fun g=>g<w.heap.size∧¬Own o.d t g) (.slice bA bs.length bc)):
 Calls Tryz.prog 17 #[.pointer (some ⟨s.D.X,0,none⟩),.int .i64 a,.slice bA bs.length bc] w (DePost w0 w t o C kk s l P Q (if checkF o.D.sd p.R a (bs.length:Nat) 2=0 then (⟨p.R,stL o.D.sd.pg p.L a.toNat bs⟩,0,[]) else (p,checkF o.D.sd p.R a (bs.length:Nat) 2,[]))):=by
 have g:=h.lw.sw.ss s List.mem_cons_self
 have hz:0<s.D.pg:=by have:=g.ok.b4;omega
 have hp:=parts_le (a:=a.toNat) (n:=bs.length) hz
 refine (SW.store (k:=kk) shK_good shP_miss a (h.less (by omega)).lw.sw hS hbc hbn hV).mono ?_
 rintro e w' ⟨t',C',m',n',h1,h2,h3,hc⟩
 have h0:=(h.less (k':=kk+2*(partsL s.D.pg a.toNat bs.length).length) (by omega))
 rw [←hr.R,←hd.check]
 have hb:=h0.sw (h0.lw.go h1 h2) h2
 have hpg:o.D.sd.pg=s.D.pg:=hd.2.1.symm
 rcases hc with ⟨c1,he,rfl,rfl,rfl⟩|⟨c1,he,hw⟩|⟨_,c1,_⟩
 · rw [if_neg c1]
   exact ⟨he,rfl,t',C',_,hb,rfl,hr,h3,h2.off⟩
 · rw [if_pos c1,hpg,hr.R]
   refine ⟨he,rfl,t',C',_,hb,rfl,?_,h3,h2.off⟩
   exact hr.store g.ok c1 hw
 · exact absurd h.lw.rm c1
def LdPost16 (w0 w:World) (t:PSt ShS) (o:WD) (C:Cu) (kk:Nat) (s:Spc) (l:List Spc) (P:List (Option MPr)) (Q:List (Option Nat)) (r:PrP×Int×Bytes) (e:Ending) (w':World):Prop:=
 ∃A c,e=.returned (.tuple #[.slice A r.2.2.length c,.int .i64 r.2.1])∧SBy w' A r.2.2.length r.2.2∧DeR w0 w t o C kk s l P Q r.1 w'
theorem WB.load1 (a n:Int) (h:WB w0 w o t C (kk+n.toNat) (s::l) P Q) (hr:PgRel s C p) (hd:ShOk o.D s):
 Calls Tryz.prog 18 #[.pointer (some ⟨s.D.X,0,none⟩),.int .i64 a,.int .i64 n] w (LdPost16 w0 w t o C kk s l P Q (p,checkF o.D.sd p.R a n 1,if checkF o.D.sd p.R a n 1=0 then ldN o.D.sd.pg p.L a.toNat n.toNat else [])):=by
 have g:=h.lw.sw.ss s List.mem_cons_self
 have hz:0<s.D.pg:=by have:=g.ok.b4;omega
 have hp:=parts_le (a:=a.toNat) (n:=n.toNat) hz
 refine (SW.load (k:=kk) shK_good shP_miss a n (h.less (by omega)).lw.sw).mono ?_
 rintro e w' ⟨t',h1,h2,_,hc⟩
 have h0:=(h.less (k':=kk+(partsL s.D.pg a.toNat n.toNat).length) (by omega))
 rw [←hr.R,←hd.check]
 have hb:=h0.sw (h0.lw.go h1 h2) h2
 have hpg:o.D.sd.pg=s.D.pg:=hd.2.1.symm
 rcases hc with ⟨c1,he⟩|⟨c1,A',c',he,ho,hq⟩|⟨_,c1,_⟩
 · rw [if_neg c1]
   exact ⟨none,0,he,SBy.nil _ _,t',C,s,hb,rfl,hr,fun _ _=>rfl,h2.off⟩
 · rw [if_pos c1,hpg]
   rw [hr.load] at ho
   refine ⟨A',c',?_,?_,t',C,s,hb,rfl,hr,fun _ _=>rfl,h2.off⟩
   · simp only
     rw [ldN_len,c1]
     exact he
   · simp only
     rw [ldN_len]
     exact ho.part.2.2
 · exact absurd h.lw.rm c1
set_option maxRecDepth 100000 in
set_option maxHeartbeats 2000000 in
theorem load_bad {σ:Type} {K:SnkF σ} {M:Snk K} {P:PSnk K} {d:PD} {t:PSt σ} {C:Cu} {D:SpD} {A:Option Addr} {cap n:Nat} {L:List Rg} {m:Int→Option Int} (at_ j:Int) (h:SS M P w d t C kk D A cap L m n) (hz:checkF D L at_ j 1≠0):
 Calls Tryz.prog 18 #[.pointer (some ⟨D.X,0,none⟩),.int .i64 at_,.int .i64 j] w fun e w'=>e=.returned (.tuple #[.slice none 0 0,.int .i64 (checkF D L at_ j 1)])∧Below w.heap.size w w':=by
 have HC:=hJ (check_b h.sp h.ok h.len at_ j 1)
 obtain ⟨z,hzz⟩:∃z,checkF D L at_ j 1=z:=⟨_,rfl⟩
 rw [hzz] at HC hz ⊢
 have hne:(z !=0)=true:=by simpa using hz
 clear h hzz hz
 go_enter Tryz.func18,Tryz.ntmps18
 go_wp2_with (go_at_call 61;refine HC.out.mono ?_;rintro e w1 ⟨rfl,hb1⟩;have HB1:=hJ hb1;clear hb1)
 go_ret2
 exact ⟨rfl,HB1.out⟩
theorem WB.load (a n:Int) {cst:Nat} (hc:checkF o.D.sd p.R a n 1=0→n.toNat≤cst) (h:WB w0 w o t C (kk+cst) (s::l) P Q) (hr:PgRel s C p) (hd:ShOk o.D s):
 Calls Tryz.prog 18 #[.pointer (some ⟨s.D.X,0,none⟩),.int .i64 a,.int .i64 n] w (LdPost16 w0 w t o C kk s l P Q (p,checkF o.D.sd p.R a n 1,if checkF o.D.sd p.R a n 1=0 then ldN o.D.sd.pg p.L a.toNat n.toNat else [])):=by
 by_cases hz:checkF o.D.sd p.R a n 1=0
 · have:=hc hz
   exact WB.load1 a n (h.less (by omega)) hr hd
 · have g:=h.lw.sw.ss s List.mem_cons_self
   have e1:checkF s.D s.L a n 1=checkF o.D.sd p.R a n 1:=by rw [hd.check,hr.R]
   refine (load_bad a n g (by rw [e1];exact hz)).mono ?_
   rintro e w' ⟨he,hb⟩
   rw [if_neg hz]
   rw [e1] at he
   exact ⟨none,0,he,SBy.nil _ _,t,C,s,(h.up hb).less (by omega),rfl,hr,fun _ _=>rfl,Off.of_below hb⟩
end
end Go.Proofs.YtlhfjaagkgengaaGreat
