/- Spaces on one pager: what one does the others see not. The document's machine: New; a shape that is worth its while. -/
import Derived.Test.YtlhfjaagkgengaaGreatPC26
namespace Go.Proofs.YtlhfjaagkgengaaGreat
set_option maxRecDepth 100000
set_option maxHeartbeats 4000000
open Go.RowKit Go.Maps
set_option linter.unusedVariables false
set_option linter.unusedSimpArgs false
structure Spc where
 D:SpD
 A:Option Addr
 cap:Nat
 L:List Rg
 m:Pm
 n:Nat
def Spc.ow (s:Spc) (q:Nat):Prop:=spO s.D s.A s.L.length q
def injM (m:Pm):Prop:=∀i j id,m i=some id→m j=some id→i=j
structure SW {σ:Type} {K:SnkF σ} (M:Snk K) (P:PSnk K) (w:World) (d:PD) (t:PSt σ) (C:Cu) (k:Nat) (l:List Spc):Prop where
 pv:Pv M P w d t C k
 ss:∀s∈l,SS M P w d t C k s.D s.A s.cap s.L s.m s.n
 dj:l.Pairwise fun a b=>∀q,a.ow q→¬b.ow q
 us:UsOk C (l.map (·.m))
 inj:∀s∈l,injM s.m
 num:l.length≤1000
def swO {σ:Type} (d:PD) (t:PSt σ) (l:List Spc) (q:Nat):Prop:=Own d t q∨∃s∈l,s.ow q
structure SwN {σ:Type} {K:SnkF σ} (P:PSnk K) (w w':World) (d:PD) (t t':PSt σ) (l l':List Spc):Prop where
 off:Off (swO d t l) w w'
 own:∀q,swO d t' l' q→swO d t l q∨w.heap.size≤q
 rm:P.room t.s<0→P.room t'.s<0
section
variable {σ:Type} {K:SnkF σ} {M:Snk K} {P:PSnk K} {w w' w1 w2 w3:World} {d:PD} {t t' t1 t2:PSt σ} {C C' C1:Cu} {k k0 k1 k2:Nat} {l l' l1 l2:List Spc} {s s':Spc} {S:Nat→Prop}
theorem SwN.refl:SwN P w w d t t l l:=⟨Off.refl _ _,fun _=>.inl,id⟩
theorem SwN.up (h:SwN P w w1 d t t' l l') (hb:Below w1.heap.size w1 w2):SwN P w w2 d t t' l l':=⟨h.off.step hb,h.own,h.rm⟩
theorem SwN.trans (h:SwN P w w1 d t t1 l l1) (g:SwN P w1 w2 d t1 t2 l1 l2):SwN P w w2 d t t2 l l2:=by
 refine ⟨h.off.late g.off (fun i hi ho=>?_),fun i ho=>?_,fun e=>g.rm (h.rm e)⟩
 · rcases h.own i ho with e|e
   · exact e
   · omega
 · rcases g.own i ho with e|e
   · exact h.own i e
   · have:=h.off.size;exact .inr (by omega)
theorem SwN.keep (h:SwN P w w' d t t' l l') {b:Nat} (hb:b<w.heap.size) (hn:¬swO d t l b):b<w'.heap.size∧¬swO d t' l' b:=
 ⟨Nat.lt_of_lt_of_le hb h.off.size,fun e=>by rcases h.own b e with e|e;exact hn e;omega⟩
theorem SW.lt (h:SW M P w d t C k l) {b:Nat} (hb:swO d t l b):b<w.heap.size:=by
 rcases hb with hb|⟨s,hs,hb⟩
 · exact h.pv.lt hb
 · exact (h.ss s hs).sp.lt hb
theorem SW.up (h:SW M P w d t C k l) (hb:Below w.heap.size w w'):SW M P w' d t C k l:=⟨h.pv.up hb,fun s hs=>(h.ss s hs).up hb,h.dj,h.us,h.inj,h.num⟩
theorem SW.less (hK:K.Good) (h:SW M P w d t C k l) {k':Nat} (hk:k'≤k):SW M P w d t C k' l:=⟨h.pv.less hK hk,fun s hs=>(h.ss s hs).less hK hk,h.dj,h.us,h.inj,h.num⟩
theorem SW.off (h:SW M P w d t C k l) (ho:Off S w w') (h1:∀b,S b→¬swO d t l b):SW M P w' d t C k l:=
 ⟨h.pv.offL ho (fun b hb e=>h1 b hb (.inl e)),fun s hs=>(h.ss s hs).offL ho (fun b hb e=>h1 b hb (.inl e)) (fun b hb e=>h1 b hb (.inr ⟨s,hs,e⟩)),h.dj,h.us,h.inj,h.num⟩
theorem swO_perm (hp:l.Perm l') {q:Nat}:swO d t l q ↔ swO d t l' q:=by
 unfold swO
 constructor
 · rintro (h|⟨s,hs,h⟩)
   · exact .inl h
   · exact .inr ⟨s,hp.mem_iff.1 hs,h⟩
 · rintro (h|⟨s,hs,h⟩)
   · exact .inl h
   · exact .inr ⟨s,hp.mem_iff.2 hs,h⟩
theorem SW.perm (h:SW M P w d t C k l) (hp:l.Perm l'):SW M P w d t C k l':=
 ⟨h.pv,fun s hs=>h.ss s (hp.mem_iff.2 hs),(hp.pairwise_iff (fun {a b} hab q hb ha=>hab q ha hb)).1 h.dj,h.us.perm (hp.map _),fun s hs=>h.inj s (hp.mem_iff.2 hs),by rw [←hp.length_eq];exact h.num⟩
theorem SW.use (h:SW M P w d t C k l) (hs:s∈l) {i id:Int} {b:Bytes} {u:Int} (hm:s.m i=some id) (hc:C id=some (b,u)):1≤u∧u≤1000:=by
 obtain ⟨h1,h2⟩:=h.us.got hc
 have:=cntI_le (l.map (·.m)) id
 rw [List.length_map] at this
 have:=h.num
 omega
theorem SW.next (h:SW M P w d t C k0 (s::l)) (hx:Nxs P S w w' d t t') (hS:∀q,S q→s.ow q) (hs:SS M P w' d t' C' k s'.D s'.A s'.cap s'.L s'.m s'.n) (hu:UsOk C' (s'.m::l.map (·.m))) (hi:injM s'.m)
 (hw:∀q,s'.ow q→s.ow q∨w.heap.size≤q):SW M P w' d t' C' k (s'::l)∧SwN P w w' d t t' (s::l) (s'::l):=by
 obtain ⟨hd1,hd2⟩:=List.pairwise_cons.1 h.dj
 refine ⟨⟨hs.pv,fun x hx2=>?_,List.pairwise_cons.2 ⟨fun x hx2 q hq e=>?_,hd2⟩,hu,fun x hx2=>?_,h.num⟩,⟨hx.off.mono ?_,?_,hx.rm⟩⟩
 · rcases List.mem_cons.1 hx2 with rfl|hx2
   · exact hs
   · have g:=h.ss x (jP hx2)
     exact ⟨g.sp.off hx.off (fun q hq e=>by
      rcases hq with hq|hq
      · exact g.sep q e hq
      · exact hd1 x hx2 q (hS q hq) e),hs.pv,g.ok,g.q,g.z,fun q hq=>(hx.keep (g.sp.lt hq) (g.sep q hq)).2,
      fun i id hm=>hu.at (jP (List.mem_map.2 ⟨x,hx2,rfl⟩)) hm,g.len⟩
 · rcases hw q hq with e2|e2
   · exact hd1 x hx2 q e2 e
   · have:=(h.ss x (jP hx2)).sp.lt e
     omega
 · rcases List.mem_cons.1 hx2 with rfl|hx2
   · exact hi
   · exact h.inj x (jP hx2)
 · rintro b (hb|hb)
   · exact .inl hb
   · exact .inr ⟨s,jM,hS b hb⟩
 · rintro q (hq|⟨x,hx2,hq⟩)
   · exact (hx.own q hq).imp .inl id
   · rcases List.mem_cons.1 hx2 with rfl|hx2
     · exact (hw q hq).imp (fun e=>.inr ⟨s,jM,e⟩) id
     · exact .inl (.inr ⟨x,List.mem_cons_of_mem _ hx2,hq⟩)
def Spc.mem (s:Spc) (C:Cu):Nat→Bytes:=memF s.D.pg C s.m
theorem SW.memLen (h:SW M P w d t C k l) (hs:s∈l) (i:Nat):(s.mem C i).length=s.D.pg:=by
 unfold Spc.mem
 have g:=h.ss s hs
 rw [g.z]
 exact memF_len g i
def LdW (M:Snk K) (P:PSnk K) (w:World) (d:PD) (t:PSt σ) (C:Cu) (k:Nat) (s:Spc) (l:List Spc) (a j:Int) (e:Ending) (w':World):Prop:=
 ∃ t',SW M P w' d t' C k (s::l)∧SwN P w w' d t t' (s::l) (s::l)∧t'.nx=t.nx∧
   ((checkF s.D s.L a j 1≠0∧e=.returned (.tuple #[.slice none 0 0,.int .i64 (checkF s.D s.L a j 1)]))∨
    (checkF s.D s.L a j 1=0∧∃A' c',e=.returned (.tuple #[.slice A' j.toNat c',.int .i64 0])∧OwB w.heap.size w' (.slice A' j.toNat c') (rngF (flatF s.D.pg (s.mem C)) a.toNat j.toNat)∧∀g,(Value.slice A' j.toNat c').ownBlock=some g→¬swO d t' (s::l) g)∨
    (checkF s.D s.L a j 1=0∧¬P.room t.s<0∧e=.returned (.tuple #[.slice none 0 0,.int .i64 P.ez])))
theorem SW.load (hK:K.Good) (hmi:P.Miss) (a j:Int) (h:SW M P w d t C (k+(partsL s.D.pg a.toNat j.toNat).length) (s::l)):
 Calls Tryz.prog 18 #[.pointer (some ⟨s.D.X,0,none⟩),.int .i64 a,.int .i64 j] w (LdW M P w d t C k s l a j):=by
 have g:=h.ss s jM
 refine (load_b hK hmi a j g).mono ?_
 rintro e w' ⟨t',hs,hx,hn,_,hc⟩
 obtain ⟨h1,h2⟩:=h.next (s':=s) (S:=fun _=>False) hx.nxs (fun q e=>e.elim) hs h.us (h.inj s jM) (fun q=>.inl)
 refine ⟨t',h1,h2,hn,?_⟩
 rcases hc with ⟨c1,c2⟩|⟨c1,A',c',c2,c3,c4⟩|c
 · exact .inl ⟨c1,c2⟩
 · refine .inr (.inl ⟨c1,A',c',c2,?_,fun q hq=>?_⟩)
   · have hz:0<s.D.pg:=by have:=g.ok.b4;omega
     rw [show partsL s.D.pg a.toNat j.toNat=partsN s.D.pg j.toNat a.toNat j.toNat from rfl,show memF s.D.pg C s.m=s.mem C from rfl,loadF_flat hz (fun i=>h.memLen jM i) _ _ _ jN] at c3
     exact c3
   · rintro (e|e)
     · exact c4 q hq e
     · have:=h.lt (.inr e)
       have:=(c3.lt q hq).1
       omega
 · exact .inr (.inr c)
structure StW (s:Spc) (C C':Cu) (m':Pm) (N:Nat) (a:Nat) (bs:Bytes):Prop where
 flat:∀i,flatF s.D.pg (memF s.D.pg C' m') i=if a≤i∧i<a+bs.length then bs.getD (i-a) 0 else flatF s.D.pg (s.mem C) i
 dom:∀i,(m' i).isSome=true ↔ (s.m i).isSome=true∨∃j:Nat,a≤j∧j<a+bs.length∧((j / s.D.pg:Nat):Int)=i
 new:∀i,m' i=s.m i∨(∃j:Nat,a≤j∧j<a+bs.length∧((j / s.D.pg:Nat):Int)=i)∧∃id:Nat,m' i=some (id:Int)∧N≤id
 shr:∀j:Nat,a≤j→j<a+bs.length→(∀id b u,s.m ((j / s.D.pg:Nat):Int)=some id→C id=some (b,u)→1<u)→∃id:Nat,m' ((j / s.D.pg:Nat):Int)=some (id:Int)∧N≤id
theorem mkF_hit (z:Nat) (C:Cu) (m:Int→Option Int):∀(ps:List Pt) (nx:Nat) (b:Bytes) (x:Pt),x∈ps→(∀bb,skipB C m x bb=false)→∃e∈mkF z C m nx ps b,e.p=x.p
 |[],_,_,_,h,_=>by cases h
 | y ::ps,nx,b,x,h,hs=>by
   rw [mkF]
   rcases List.mem_cons.1 h with rfl|h
   · rw [if_neg (by rw [hs];simp)]
     exact ⟨_,jM,rfl⟩
   · split
     · exact mkF_hit z C m ps _ _ x h hs
     · obtain ⟨e,he,h2⟩:=mkF_hit z C m ps (nx+1) (b.drop y.n) x h hs
       exact ⟨e,List.mem_cons_of_mem _ he,h2⟩
def SrW (M:Snk K) (P:PSnk K) (w:World) (d:PD) (t:PSt σ) (C:Cu) (k:Nat) (s:Spc) (l:List Spc) (a:Int) (bs:Bytes) (e:Ending) (w':World):Prop:=
 ∃ t' C' m' n',SW M P w' d t' C' k ({s with m:=m',n:=n'}::l)∧SwN P w w' d t t' (s::l) ({s with m:=m',n:=n'}::l)∧(∀x∈l,x.mem C'=x.mem C)∧
   ((checkF s.D s.L a bs.length 2≠0∧e=.returned (.int .i64 (checkF s.D s.L a bs.length 2))∧C'=C∧m'=s.m∧n'=s.n)∨
    (checkF s.D s.L a bs.length 2=0∧e=.returned (.int .i64 0)∧StW s C C' m' t.nx a.toNat bs)∨
    (checkF s.D s.L a bs.length 2=0∧¬P.room t.s<0∧e=.returned (.int .i64 P.ez)∧C'=C∧m'=s.m∧n'=s.n))
theorem SW.store (hK:K.Good) (hmi:P.Miss) (a:Int) {bA:Option Addr} {bn bc:Nat} {bs:Bytes} (h:SW M P w d t C (k+2*(partsL s.D.pg a.toNat bs.length).length) (s::l)) (hS:SBy w bA bn bs) (hbc:bn≤bc) (hbn:bn≤9223372036854775807) (hV:VIn (fun g=>g<w.heap.size∧¬Own d t g) (.slice bA bn bc)):
 Calls Tryz.prog 17 #[.pointer (some ⟨s.D.X,0,none⟩),.int .i64 a,.slice bA bn bc] w (SrW M P w d t C k s l a bs):=by
 have g:=h.ss s jM
 have hi:=h.inj s jM
 refine (store_b hK hmi a g hS hbc hbn hV hi (fun i id b u hm hc=>by have:=h.use jM hm hc;omega)).mono ?_
 rintro e w' ⟨t',hx,hc⟩
 have hS':∀q,q=s.D.Mm→s.ow q:=fun q hq=>.inr (.inl hq)
 rcases hc with ⟨c1,c2,c3,c4⟩|⟨c1,c2,c3,n',c4⟩|⟨c1,c2,c3,c4,c5⟩
 · obtain ⟨h1,h2⟩:=h.next (s':=s) hx hS' c3 h.us hi (fun q=>.inl)
   exact ⟨t',C,s.m,s.n,h1,h2,fun _ _=>rfl,.inl ⟨c1,c2,rfl,rfl,rfl⟩⟩
 · have hz :0<s.D.pg:=by have:=g.ok.b4;omega
   have hp:=partsN_pair s.D.pg hz bs.length a.toNat bs.length
   have hin:∀x∈partsN s.D.pg bs.length a.toNat bs.length,x.o+x.n≤s.D.pg:=fun x hx=>(partsN_in s.D.pg hz _ _ _ x hx).1
   have hsum:=partsN_sumN s.D.pg hz bs.length a.toNat bs.length jN
   rw [show partsL s.D.pg a.toNat bs.length=partsN s.D.pg bs.length a.toNat bs.length from rfl] at c4
   have hmk:MkOk C s.m (mkF s.D.pg C s.m t.nx (partsN s.D.pg bs.length a.toNat bs.length) bs) t.nx:=⟨(mkF_ids s.D.pg C s.m _ t.nx bs).1,mkF_places s.D.pg C s.m _ t.nx bs hp,fun e he=>(mkF_mem s.D.pg C s.m _ t.nx bs e he).1,fun i p hp=>(h.pv.id1 i p hp).2,g.has,hi⟩
   have hml:=fun i=>h.memLen (s:=s) jM i
   have hmem:=memF_pl (nx:=t.nx) hml hp hin hsum.symm hmk h.us
   have hd:=dom_pl hml hp hin hsum.symm hmk
   have hplace:=mkF_mem s.D.pg C s.m (partsN s.D.pg bs.length a.toNat bs.length) t.nx bs
   have hhit:=mkF_hit s.D.pg C s.m (partsN s.D.pg bs.length a.toNat bs.length) t.nx bs
   generalize mkF s.D.pg C s.m t.nx (partsN s.D.pg bs.length a.toNat bs.length) bs=R at c4 hmk hmem hd hplace hhit
   obtain ⟨h1,h2⟩:=h.next (s':={s with m:=plM s.m R (dnS R),n:=n'}) hx hS' c4 (h.us.pl hmk) (inj_pl hmk) (fun q=>.inl)
   refine ⟨t',plC C s.m R (dnS R),plM s.m R (dnS R),n',h1,h2,fun x hx2=>?_,.inr (.inl ⟨c1,c2,⟨fun i=>?_,fun i=>?_,fun i=>?_,fun j j1 j2 hu=>?_⟩⟩)⟩
   · refine memF_same fun i id hm=>?_
     obtain ⟨p,hp⟩:=h.us.at (m:=x.m) (List.mem_map.2 ⟨x,List.mem_cons_of_mem _ hx2,rfl⟩) hm
     obtain ⟨p',hp'⟩:=h1.us.at (m:=x.m) (List.mem_map.2 ⟨x,List.mem_cons_of_mem _ hx2,rfl⟩) hm
     obtain ⟨u,hu⟩:=pl_bytes hmk (hmk.old id p hp) hp'
     exact ⟨p',u,hp',hu⟩
   · have:=(stF_flat hz bs.length a.toNat bs.length bs (s.mem C) hml rfl jN).2 i
     rw [←this]
     exact congrArg (fun f=>flatF s.D.pg f i) hmem
   · rw [hd i]
     refine or_congr Iff.rfl ⟨?_,?_⟩
     · rintro ⟨x,hx3,rfl⟩
       obtain ⟨j,j1,j2,j3⟩:=(partsN_hit hz bs.length a.toNat bs.length jN x.p).1 ⟨x,hx3,rfl⟩
       exact ⟨j,j1,j2,by rw [j3]⟩
     · rintro ⟨j,j1,j2,rfl⟩
       obtain ⟨x,hx3,e⟩:=(partsN_hit hz bs.length a.toNat bs.length jN (j / s.D.pg)).2 ⟨j,j1,j2,rfl⟩
       exact ⟨x,hx3,by rw [e]⟩
   · by_cases c:∃e∈R,(e.p:Int)=i
     · obtain ⟨e,he,rfl⟩:=c
       obtain ⟨_,x,hx3,e1⟩:=hplace e he
       obtain ⟨j,j1,j2,j3⟩:=(partsN_hit hz bs.length a.toNat bs.length jN x.p).1 ⟨x,hx3,rfl⟩
       exact .inr ⟨⟨j,j1,j2,by rw [j3,e1]⟩,e.id,(pl_new hmk he).2,hmk.new e he⟩
     · exact .inl (pl_off hmk fun e he e2=>c ⟨e,he,e2⟩)
   · obtain ⟨x,hx3,e⟩:=(partsN_hit hz bs.length a.toNat bs.length jN (j / s.D.pg)).2 ⟨j,j1,j2,rfl⟩
     obtain ⟨e1,he1,he2⟩:=hhit x hx3 fun bb=>by
      unfold skipB
      rw [e]
      cases hm:s.m ((j / s.D.pg:Nat):Int) with
      |none=>rfl
      | some id=>
        cases hc:C id with
        |none=>simp only [hc]
        | some q=>
          have:=hu id q.1 q.2 hm hc
          simp only [hc]
          rw [decide_eq_false (by omega)]
          rfl
     refine ⟨e1.id,?_,hmk.new e1 he1⟩
     rw [←e,←he2]
     exact (pl_new hmk he1).2
 · obtain ⟨h1,h2⟩:=h.next (s':=s) hx hS' c4 h.us hi (fun q=>.inl)
   exact ⟨t',C,s.m,s.n,h1,h2,fun _ _=>rfl,.inr (.inr ⟨c1,c2,c3,rfl,rfl,rfl⟩)⟩
def RsW (M:Snk K) (P:PSnk K) (w:World) (d:PD) (t:PSt σ) (C:Cu) (k:Nat) (s:Spc) (l:List Spc) (R:List Rg×Int) (e:Ending) (w':World):Prop:=
 e=.returned (.int .i64 R.2)∧∃A' cap',SW M P w' d t C k ({s with A:=A',cap:=cap',L:=if R.2=0 then R.1 else s.L}::l)∧SwN P w w' d t t (s::l) ({s with A:=A',cap:=cap',L:=if R.2=0 then R.1 else s.L}::l)
theorem SW.regs (h:SW M P w d t C k (s::l)) {R:List Rg×Int} {e:Ending} (hr:RsPost M P w d t C k s.D s.A s.cap s.L s.m s.n R e w'):RsW M P w d t C k s l R e w':=by
 obtain ⟨he,ho,hc⟩:=hr
 have hS':∀q,q=s.D.X→s.ow q:=fun q hq=>.inl hq
 have hx:Nxs P (· =s.D.X) w w' d t t:=⟨ho.mono fun _=>.inr,fun _=>.inl,id⟩
 refine ⟨he,?_⟩
 rcases hc with ⟨c1,A',cap',hs,hA⟩|⟨c1,hs⟩
 · rw [if_pos c1]
   obtain ⟨h1,h2⟩:=h.next (s':={s with A:=A',cap:=cap',L:=R.1}) hx hS' hs h.us (h.inj s jM) (fun q hq=>by
    rcases hq with hq|hq|hq
    · exact .inl (.inl hq)
    · exact .inl (.inr (.inl hq))
    · exact .inr (hA q hq))
   exact ⟨A',cap',h1,h2⟩
 · rw [if_neg c1]
   obtain ⟨h1,h2⟩:=h.next (s':=s) hx hS' hs h.us (h.inj s jM) (fun q=>.inl)
   exact ⟨s.A,s.cap,h1,h2⟩
end
set_option maxRecDepth 100000
set_option maxHeartbeats 4000000
def boE:El Bool where
 sl:=173
 el:=4
 z:=.bool false
 bytes:=1
 k:=1
 ht:=Tryz.underlying173
 hi:=by kernel_rfl
 hzs:=rfl
 hk:=by decide
 hb64:=by decide
 cells x:=[.bool x]
 len _:=rfl
 one x u hu:=by
  simp at hu
  rcases hu with rfl
  rfl
def prE:El (Option Nat) where
 sl:=94
 el:=158
 z:=.pointer none
 bytes:=8
 k:=1
 ht:=Tryz.underlying94
 hi:=by kernel_rfl
 hzs:=rfl
 hk:=by decide
 hb64:=by decide
 cells x:=[.pointer (x.map fun g=>⟨g,0,none⟩)]
 len _:=rfl
 one x u hu:=by
  simp at hu
  rcases hu with rfl
  cases x<;>rfl
def psE:El (Option Nat) where
 sl:=51
 el:=30
 z:=.pointer none
 bytes:=8
 k:=1
 ht:=Tryz.underlying51
 hi:=by kernel_rfl
 hzs:=rfl
 hk:=by decide
 hb64:=by decide
 cells x:=[.pointer (x.map fun g=>⟨g,0,none⟩)]
 len _:=rfl
 one x u hu:=by
  simp at hu
  rcases hu with rfl
  cases x<;>rfl
theorem run_make_el {E:Type} (F:El E) (h1:F.k=1) (hz:F.z.cells=#[F.z]) (n:Nat) (hn:n≤100000) (w:World):
 (Instr.makeSlice F.sl (.int .i64 (n:Int)) (.int .i64 (n:Int))).run Tryz.prog w=.ok (.slice (some ⟨w.heap.size,0,none⟩) n n) (w.alloc (.cells (madeCells #[F.z] n) F.el)):=by
 obtain ⟨i0,hi,hz0,hz1,hz2⟩:=info_parts F.hi
 have hb:=F.hb64
 have h:=run_make (P:=Tryz.prog) w F.sl F.el i0 _ F.ht hi hz0 .i64 .i64 n n (by omega) (by omega) (by
  rw [hz2]
  have:F.bytes*n≤512*100000:=Nat.mul_le_mul hb hn
  have e:((F.bytes:Int)*(n:Int))=((F.bytes*n:Nat):Int):=by simp
  rw [e]
  omega) (by omega)
 rw [h,hz,hz1,h1,Nat.mul_one,Int.toNat_natCast]
theorem OwE.made {E:Type} (F:El E) (h1:F.k=1) {x:E} (hx:F.cells x=[F.z]) (n:Nat) (hn:n≤100000) (w:World):
 OwE F w.heap.size (w.alloc (.cells (madeCells #[F.z] n) F.el)) (.slice (some ⟨w.heap.size,0,none⟩) n n) (List.replicate n x):=by
 have h:=World.ownsRow_lit (base:=w.heap.size) (e:=F.el) (size:=1) w (madeCells #[F.z] n) n jN (by unfold maxLen;omega) (by rw [size_madeCells];simp)
 unfold OwE
 rw [h1,List.length_replicate]
 have e:(madeCells #[F.z] n).toList=elC F (List.replicate n x):=by
  clear h hn
  apply List.ext_getElem?
  intro i
  by_cases hi:i<n
  · have h0:=elC_at F (List.replicate n x) i x (by rw [List.getElem?_replicate,if_pos hi]) 0 F.z (by rw [hx];rfl)
    rw [h1,Nat.mul_one,Nat.add_zero] at h0
    rw [h0,Array.getElem?_toList,made_at _ _ _ hi]
    simp [Nat.mod_one]
  · rw [Array.getElem?_toList,Array.getElem?_eq_none (by rw [size_madeCells];omega),List.getElem?_eq_none (by rw [elC_len,List.length_replicate,h1];omega)]
 rw [←e]
 exact h
def NpPost (w:World) (n:Int) (e:Ending) (w':World):Prop:=
 Below w.heap.size w w'∧((¬(1≤n∧n≤64)∧e=.returned (.tuple #[.pointer none,.int .i64 1]))∨
  (1≤n∧n≤64)∧∃S B,e=.returned (.tuple #[.pointer (some ⟨S,0,none⟩),.int .i64 0])∧w'.cell? ⟨S,0,none⟩=some (.slice (some ⟨B,0,none⟩) n.toNat n.toNat)∧
   OwE boE w.heap.size w' (.slice (some ⟨B,0,none⟩) n.toNat n.toNat) (List.replicate n.toNat false)∧w.heap.size≤S∧w.heap.size≤B∧S≠B)
theorem npNew_any (w:World) (n:Int):Calls Tryz.prog 96 #[.int .i64 n] w (NpPost w n):=by
 by_cases h1:1≤n
 · by_cases h2:n≤64
   · obtain ⟨j,rfl⟩:∃j:Nat,n=(j:Nat):=⟨n.toNat,by omega⟩
     have hmk:=run_make_el boE rfl rfl j (by omega)
     have g1:¬((j:Int)<1):=by omega
     have g2:¬((64:Int)<(j:Int)):=by omega
     have HG:Hid (∀T,NpPost w (j:Nat) (.returned (.tuple #[.pointer (some ⟨w.heap.size+1,0,none⟩),.int .i64 0])) ((w.alloc (.cells (madeCells #[.bool false] j) 4)).alloc (.cells #[.slice (some ⟨w.heap.size,0,none⟩) j j] T))):=hJ fun T=>by
      have b1:Below w.heap.size w (w.alloc (.cells (madeCells #[.bool false] j) 4)):=jB.alloc jN _
      have ho:=OwE.made boE rfl (x:=false) rfl j (by omega) w
      have s1:(w.alloc (.cells (madeCells #[.bool false] j) 4)).heap.size=w.heap.size+1:=by simp
      change OwE boE w.heap.size (w.alloc (.cells (madeCells #[.bool false] j) 4)) _ _ at ho
      generalize w.alloc (.cells (madeCells #[.bool false] j) 4)=w1 at *
      have b2:Below w1.heap.size w1 (w1.alloc (.cells #[.slice (some ⟨w.heap.size,0,none⟩) j j] T)):=jB.alloc jN _
      refine ⟨b1.trans (b2.mono (by omega)),.inr ⟨by omega,w.heap.size+1,w.heap.size,rfl,?_,?_,by omega,by omega,by omega⟩⟩
      · have hn:=heap_alloc_new w1 (.cells #[.slice (some ⟨w.heap.size,0,none⟩) j j] T)
        rw [s1] at hn
        rw [cell_of_row _ _ _ _ _ _ hn]
        rfl
      · exact ho.up b2
     go_enter Tryz.func96,Tryz.ntmps96
     simp only [boE] at hmk
     go_wp2
     go_ret2
     exact HG.out _
   · have g2:(64:Int)<n:=by omega
     have HG:Hid (NpPost w n (.returned (.tuple #[.pointer none,.int .i64 1])) w):=hJ ⟨Below.refl _ _,.inl ⟨by omega,rfl⟩⟩
     have g1:¬(n<1):=by omega
     go_enter Tryz.func96,Tryz.ntmps96
     go_wp2
     go_ret2
     exact HG.out
 · have HG:Hid (NpPost w n (.returned (.tuple #[.pointer none,.int .i64 1])) w):=hJ ⟨Below.refl _ _,.inl ⟨by omega,rfl⟩⟩
   have g1:n<1:=by omega
   go_enter Tryz.func96,Tryz.ntmps96
   go_wp2
   go_ret2
   exact HG.out
def GoodC (cf:Nat→Int):Prop:=(16≤cf 4∧cf 4≤4096)∧(1≤cf 6∧cf 6≤64)∧(1≤cf 7∧cf 7≤32)∧(1≤cf 8∧cf 8≤65536)
def NmPost (w:World) (cf:Nat→Int) (e:Ending) (w':World):Prop:=
 Below w.heap.size w w'∧((¬GoodC cf∧e=.returned (.tuple #[.pointer none,.int .i64 1]))∨
  GoodC cf∧∃X S B Q,e=.returned (.tuple #[.pointer (some ⟨X,0,none⟩),.int .i64 0])∧(∀i,i<9→w'.cell? ⟨X,i,none⟩=some (.int .i64 (cf i)))∧
   w'.cell? ⟨X,9,none⟩=some (.pointer (some ⟨S,0,none⟩))∧w'.cell? ⟨X,10,none⟩=some (.slice (some ⟨Q,0,none⟩) (cf 6).toNat (cf 6).toNat)∧
   w'.cell? ⟨S,0,none⟩=some (.slice (some ⟨B,0,none⟩) (cf 6).toNat (cf 6).toNat)∧
   OwE boE w.heap.size w' (.slice (some ⟨B,0,none⟩) (cf 6).toNat (cf 6).toNat) (List.replicate (cf 6).toNat false)∧
   OwE prE w.heap.size w' (.slice (some ⟨Q,0,none⟩) (cf 6).toNat (cf 6).toNat) (List.replicate (cf 6).toNat none)∧
   (w.heap.size≤S∧w.heap.size≤B∧w.heap.size≤Q∧w.heap.size≤X)∧S≠B∧(B≠Q∧S≠Q)∧(X≠B∧X≠S∧X≠Q))
theorem NmPost.up {w w1 w2:World} {cf:Nat→Int} {e:Ending} (h:NmPost w cf e w1) (hb:Below w1.heap.size w1 w2):NmPost w cf e w2:=by
 have hc:∀{a:Nat} {i:Nat} {v:Value},w1.cell? ⟨a,i,none⟩=some v→w2.cell? ⟨a,i,none⟩=some v:=fun {a i v} h1=>((Off.of_below (S:=fun _=>False) hb).cell (p:=⟨a,i,none⟩) (lt_of_cell h1) id).trans h1
 refine ⟨h.1.trans (hb.mono h.1.size),h.2.imp id ?_⟩
 rintro ⟨hg,X,S,B,Q,he,h1,h2,h3,h4,h5,h6,h7⟩
 exact ⟨hg,X,S,B,Q,he,fun i hi=>hc (h1 i hi),hc h2,hc h3,hc h4,h5.up hb,h6.up hb,h7⟩
theorem cfg_cells {w w1:World} {x0 x1 x2 x3 x4 x5 x6 x7 x8:Int} {T:TypeId} (h:Below (w.alloc (.cells #[.int .i64 x0,.int .i64 x1,.int .i64 x2,.int .i64 x3,.int .i64 x4,.int .i64 x5,.int .i64 x6,.int .i64 x7,.int .i64 x8] T)).heap.size (w.alloc (.cells #[.int .i64 x0,.int .i64 x1,.int .i64 x2,.int .i64 x3,.int .i64 x4,.int .i64 x5,.int .i64 x6,.int .i64 x7,.int .i64 x8] T)) w1):
 w1.cell? ⟨w.heap.size,0,none⟩=some (.int .i64 x0)∧w1.cell? ⟨w.heap.size,1,none⟩=some (.int .i64 x1)∧w1.cell? ⟨w.heap.size,2,none⟩=some (.int .i64 x2)∧w1.cell? ⟨w.heap.size,3,none⟩=some (.int .i64 x3)∧w1.cell? ⟨w.heap.size,4,none⟩=some (.int .i64 x4)∧w1.cell? ⟨w.heap.size,5,none⟩=some (.int .i64 x5)∧
  w1.cell? ⟨w.heap.size,6,none⟩=some (.int .i64 x6)∧w1.cell? ⟨w.heap.size,7,none⟩=some (.int .i64 x7)∧w1.cell? ⟨w.heap.size,8,none⟩=some (.int .i64 x8):=by
 have hn:=heap_alloc_new w (.cells #[.int .i64 x0,.int .i64 x1,.int .i64 x2,.int .i64 x3,.int .i64 x4,.int .i64 x5,.int .i64 x6,.int .i64 x7,.int .i64 x8] T)
 have hc:∀k v,(#[.int .i64 x0,.int .i64 x1,.int .i64 x2,.int .i64 x3,.int .i64 x4,.int .i64 x5,.int .i64 x6,.int .i64 x7,.int .i64 x8]:Array Value)[k]? =some v→w1.cell? ⟨w.heap.size,k,none⟩=some v:=fun k v hv=>by
  refine ((Off.of_below (S:=fun _=>False) h).cell (p:=⟨w.heap.size,k,none⟩) (by simp) id).trans ?_
  rw [cell_of_row _ _ _ _ _ _ hn];exact hv
 exact ⟨hc 0 _ rfl,hc 1 _ rfl,hc 2 _ rfl,hc 3 _ rfl,hc 4 _ rfl,hc 5 _ rfl,hc 6 _ rfl,hc 7 _ rfl,hc 8 _ rfl⟩
theorem nm_mk {cf:Nat→Int} (hg:GoodC cf) {n:Nat} (hn:cf 6=(n:Nat)) (hnb:n≤64) (w w1:World) (T:TypeId) (S:Nat) (hp:NpPost w (cf 6) (.returned (.tuple #[.pointer (some ⟨S,0,none⟩),.int .i64 0])) w1):
 NmPost w cf (.returned (.tuple #[.pointer (some ⟨w1.heap.size+1,0,none⟩),.int .i64 0])) ((w1.alloc (.cells (madeCells #[.pointer none] n) 158)).alloc (.cells #[.int .i64 (cf 0),.int .i64 (cf 1),.int .i64 (cf 2),.int .i64 (cf 3),.int .i64 (cf 4),.int .i64 (cf 5),.int .i64 (cf 6),.int .i64 (cf 7),.int .i64 (cf 8),.pointer (some ⟨S,0,none⟩),.slice (some ⟨w1.heap.size,0,none⟩) n n] T)):=by
 obtain ⟨hb,hp⟩:=hp
 rcases hp with ⟨_,he⟩|⟨_,S',B,he,c0,ho,s1,s2,s3⟩
 · simp at he
 · obtain rfl:S=S':=by simpa using he
   have b1:Below w1.heap.size w1 (w1.alloc (.cells (madeCells #[.pointer none] n) 158)):=jB.alloc jN _
   have hm:=OwE.made prE rfl (x:=none) rfl n (by omega) w1
   change OwE prE w1.heap.size (w1.alloc (.cells (madeCells #[.pointer none] n) 158)) _ _ at hm
   have z1:(w1.alloc (.cells (madeCells #[.pointer none] n) 158)).heap.size=w1.heap.size+1:=by simp
   generalize w1.alloc (.cells (madeCells #[.pointer none] n) 158)=w2 at *
   have hnw:=heap_alloc_new w2 (.cells #[.int .i64 (cf 0),.int .i64 (cf 1),.int .i64 (cf 2),.int .i64 (cf 3),.int .i64 (cf 4),.int .i64 (cf 5),.int .i64 (cf 6),.int .i64 (cf 7),.int .i64 (cf 8),.pointer (some ⟨S,0,none⟩),.slice (some ⟨w1.heap.size,0,none⟩) n n] T)
   have b2:Below w2.heap.size w2 (w2.alloc (.cells #[.int .i64 (cf 0),.int .i64 (cf 1),.int .i64 (cf 2),.int .i64 (cf 3),.int .i64 (cf 4),.int .i64 (cf 5),.int .i64 (cf 6),.int .i64 (cf 7),.int .i64 (cf 8),.pointer (some ⟨S,0,none⟩),.slice (some ⟨w1.heap.size,0,none⟩) n n] T)):=jB.alloc jN _
   rw [z1] at hnw
   generalize w2.alloc (.cells #[.int .i64 (cf 0),.int .i64 (cf 1),.int .i64 (cf 2),.int .i64 (cf 3),.int .i64 (cf 4),.int .i64 (cf 5),.int .i64 (cf 6),.int .i64 (cf 7),.int .i64 (cf 8),.pointer (some ⟨S,0,none⟩),.slice (some ⟨w1.heap.size,0,none⟩) n n] T)=w3 at *
   have hc:∀k v,(#[.int .i64 (cf 0),.int .i64 (cf 1),.int .i64 (cf 2),.int .i64 (cf 3),.int .i64 (cf 4),.int .i64 (cf 5),.int .i64 (cf 6),.int .i64 (cf 7),.int .i64 (cf 8),.pointer (some ⟨S,0,none⟩),.slice (some ⟨w1.heap.size,0,none⟩) n n]:Array Value)[k]? =some v→w3.cell? ⟨w1.heap.size+1,k,none⟩=some v:=fun k v hv=>by
    rw [cell_of_row _ _ _ _ _ _ hnw];exact hv
   have bb:Below w1.heap.size w1 w3:=b1.trans (b2.mono (by omega))
   have lS:=lt_of_cell c0
   have lB:B<w1.heap.size:=by
    refine (ho.lt (k:=B) ?_).2
    have:=hg.2.1
    have e:(Value.slice (some ⟨B,0,none⟩) (cf 6).toNat (cf 6).toNat).ownBlock=some B:=by
     first
      |rfl
      |(simp [Value.ownBlock];omega)
    exact e
   have hsz:=hb.size
   rw [hn,Int.toNat_natCast] at ho c0
   refine ⟨hb.trans (bb.mono hsz),.inr ⟨hg,w1.heap.size+1,S,B,w1.heap.size,rfl,fun i hi=>?_,hc 9 _ rfl,by rw [hn,Int.toNat_natCast];exact hc 10 _ rfl,?_,by rw [hn,Int.toNat_natCast];exact ho.up bb,by rw [hn,Int.toNat_natCast];exact (hm.up b2).mono hsz,by omega,s3,by omega,by omega⟩⟩
   · rcases (show i=0∨i=1∨i=2∨i=3∨i=4∨i=5∨i=6∨i=7∨i=8 by omega) with rfl|rfl|rfl|rfl|rfl|rfl|rfl|rfl|rfl<;>exact hc _ _ rfl
   · rw [hn,Int.toNat_natCast];exact ((Off.of_below (S:=fun _=>False) bb).cell (p:=⟨S,0,none⟩) lS id).trans c0
theorem nmNew_any (w:World) (cf:Nat→Int):Calls Tryz.prog 56 #[cfgV cf] w (NmPost w cf):=by
 by_cases hg:GoodC cf
 · obtain ⟨n,hn⟩:∃n:Nat,cf 6=(n:Nat):=⟨(cf 6).toNat,by have:=hg.2.1;omega⟩
   have hnb:n≤64:=by have:=hg.2.1;omega
   have hmk:=run_make_el prE rfl rfl n (by omega)
   have HG:Hid (∀w1 T S,NpPost w (cf 6) (.returned (.tuple #[.pointer (some ⟨S,0,none⟩),.int .i64 0])) w1→NmPost w cf (.returned (.tuple #[.pointer (some ⟨w1.heap.size+1,0,none⟩),.int .i64 0])) ((w1.alloc (.cells (madeCells #[.pointer none] n) 158)).alloc (.cells #[.int .i64 (cf 0),.int .i64 (cf 1),.int .i64 (cf 2),.int .i64 (cf 3),.int .i64 (cf 4),.int .i64 (cf 5),.int .i64 (cf 6),.int .i64 (cf 7),.int .i64 (cf 8),.pointer (some ⟨S,0,none⟩),.slice (some ⟨w1.heap.size,0,none⟩) n n] T))):=hJ fun w1 T S hp=>nm_mk hg hn hnb w w1 T S hp
   have HN:Hid (∀V,Below w.heap.size w V→Calls Tryz.prog 96 #[.int .i64 (cf 6)] V fun e w1=>∃S,e=.returned (.tuple #[.pointer (some ⟨S,0,none⟩),.int .i64 0])∧NpPost w (cf 6) e w1∧Below V.heap.size V w1):=hJ fun V hb=>(npNew_any V (cf 6)).mono fun e w1 h=>by
    obtain ⟨h1,h2⟩:=h
    rcases h2 with ⟨h2,_⟩|⟨h2,S,B,rfl,h3,h4,h5,h6,h7⟩
    · exact absurd hg.2.1 h2
    · have:=hb.size
      exact ⟨S,rfl,⟨hb.trans (h1.mono hb.size),.inr ⟨h2,S,B,rfl,h3,h4.mono hb.size,by omega,by omega,h7⟩⟩,h1⟩
   obtain ⟨⟨g1,g2⟩,⟨g3,g4⟩,⟨g5,g6⟩,g7,g8⟩:=hg
   have g1':¬(cf 4<16):=by omega
   have g2':¬(4096<cf 4):=by omega
   have g3':¬(cf 6<1):=by omega
   have g4':¬(64<cf 6):=by omega
   have g5':¬(cf 7<1):=by omega
   have g6':¬(32<cf 7):=by omega
   have g7':¬(cf 8<1):=by omega
   have g8':¬(65536<cf 8):=by omega
   rw [←hn] at hmk
   simp only [prE] at hmk
   clear g1 g2 g3 g4 g5 g6 g7 g8 hn
   unfold cfgV
   generalize cf 0=x0 at *
   generalize cf 1=x1 at *
   generalize cf 2=x2 at *
   generalize cf 3=x3 at *
   generalize cf 4=x4 at *
   generalize cf 5=x5 at *
   generalize cf 6=x6 at *
   generalize cf 7=x7 at *
   generalize cf 8=x8 at *
   go_enter Tryz.func56,Tryz.ntmps56
   go_wp2_with (first|(go_at_call 96;(refine (HN.out _ (by first|(with_reducible exact jB.alloc jN _)|(with_reducible exact Below.refl _ _)|(trace_state;fail))).mono ?_);rintro e w1 ⟨S,rfl,hp,hbv⟩;have HP:=hJ (HG.out w1 96 S hp);obtain ⟨c0,c1,c2,c3,c4,c5,c6,c7,c8⟩:=cfg_cells hbv;clear hp hbv))
   go_region_held3 (fun V=>V.cell? ⟨w.heap.size,0,none⟩=some (.int .i64 x0)∧V.cell? ⟨w.heap.size,1,none⟩=some (.int .i64 x1)∧V.cell? ⟨w.heap.size,2,none⟩=some (.int .i64 x2)∧V.cell? ⟨w.heap.size,3,none⟩=some (.int .i64 x3)∧V.cell? ⟨w.heap.size,4,none⟩=some (.int .i64 x4)∧V.cell? ⟨w.heap.size,5,none⟩=some (.int .i64 x5)∧V.cell? ⟨w.heap.size,6,none⟩=some (.int .i64 x6)∧V.cell? ⟨w.heap.size,7,none⟩=some (.int .i64 x7)∧V.cell? ⟨w.heap.size,8,none⟩=some (.int .i64 x8)) (first|exact ⟨c0,c1,c2,c3,c4,c5,c6,c7,c8⟩|go_keep) (fail)
   all_goals
    go_wp2
    go_ret2
    first
     |exact HP.out
     |exact (HP.out).up jB.drew
 · have HB:∀V,Below w.heap.size w V→NmPost w cf (.returned (.tuple #[.pointer none,.int .i64 1])) V:=fun V hb=>⟨hb,.inl ⟨hg,rfl⟩⟩
   have HB:=hJ HB
   have hcs:cf 4<16∨(¬cf 4<16∧4096<cf 4)∨(¬cf 4<16∧¬4096<cf 4∧cf 6<1)∨(¬cf 4<16∧¬4096<cf 4∧¬cf 6<1∧64<cf 6)∨(¬cf 4<16∧¬4096<cf 4∧¬cf 6<1∧¬64<cf 6∧cf 7<1)∨(¬cf 4<16∧¬4096<cf 4∧¬cf 6<1∧¬64<cf 6∧¬cf 7<1∧32<cf 7)∨
    (¬cf 4<16∧¬4096<cf 4∧¬cf 6<1∧¬64<cf 6∧¬cf 7<1∧¬32<cf 7∧cf 8<1)∨(¬cf 4<16∧¬4096<cf 4∧¬cf 6<1∧¬64<cf 6∧¬cf 7<1∧¬32<cf 7∧¬cf 8<1∧65536<cf 8):=by
    unfold GoodC at hg
    omega
   clear hg
   unfold cfgV
   generalize cf 0=x0 at *
   generalize cf 1=x1 at *
   generalize cf 2=x2 at *
   generalize cf 3=x3 at *
   generalize cf 4=x4 at *
   generalize cf 5=x5 at *
   generalize cf 6=x6 at *
   generalize cf 7=x7 at *
   generalize cf 8=x8 at *
   rcases hcs with h|⟨h1,h⟩|⟨h1,h2,h⟩|⟨h1,h2,h3,h⟩|⟨h1,h2,h3,h4,h⟩|⟨h1,h2,h3,h4,h5,h⟩|⟨h1,h2,h3,h4,h5,h6,h⟩|⟨h1,h2,h3,h4,h5,h6,h7,h⟩<;>
    (go_enter Tryz.func56,Tryz.ntmps56
     go_wp2
     go_ret2
     exact HB.out _ (by first|(with_reducible exact jB.alloc jN _)|(with_reducible exact Below.refl _ _)|(trace_state;fail)))
end Go.Proofs.YtlhfjaagkgengaaGreat
