/- A space's regions stay right. Spaces on one pager: pages are let go, a space is closed; the pager itself. A space and the document's process: that they hold the same. -/
import Derived.Test.YtlhfjaagkgengaaGreatPA44
namespace Go.Proofs.YtlhfjaagkgengaaGreat
open Go.RowKit Go.Maps
set_option linter.unusedVariables false
set_option linter.unusedSimpArgs false
theorem findB_at:∀{L:List Rg} {x:Int},findB L x=(atR L x).isSome
 |[],_=>rfl
 | r ::L,x=>by
   unfold findB atR
   rw [List.any_cons]
   split
   · rename_i h
     rw [decide_eq_true h];rfl
   · rename_i h
     rw [decide_eq_false h,Bool.false_or]
     exact findB_at
section
variable {D:SpD} {L:List Rg} {a n p:Int}
def RgsOk (D:SpD) (L:List Rg):Prop:=rightL D.ps L=true∧L.length≤D.rg
theorem pages_of (h:pagesB D a n=true):1≤n∧0≤a∧a+n≤D.ps:=by
 have:=of_decide_eq_true h
 omega
theorem pages_yes {x:List Rg×Int} {R:List Rg×Int} (hz:(if pagesB D a n=false then x else R).2=0) (hx:x.2≠0):pagesB D a n=true:=by
 cases hb:pagesB D a n with
 |true=>rfl
 |false=>rw [if_pos hb] at hz;exact absurd hz hx
theorem fit_yes {R:List Rg×Int} (hz:(fitF D R).2=0):fitF D R=R∧R.2=0∧R.1.length≤D.rg:=by
 unfold fitF at hz ⊢
 split at hz
 · cases hz
 · rename_i h
   rw [if_neg h]
   exact ⟨rfl,hz,by omega⟩
theorem withF_right (h:rightL D.ps L=true) (h0:0≤a) (hn:1≤n) (hs:a+n≤D.ps) {how:Int} (hh:how≤3∧ -1≤how):rightL D.ps (withF L a (a+n) how)=true:=by
 obtain ⟨h1,h2⟩:=right_iff.1 h
 obtain ⟨w1,_⟩:=withF_spec (how:=how) h1.srt (fun r hr=>by have:=h2 r hr;omega) h0 (show a<a+n by omega)
 refine right_iff.2 ⟨w1,fun r hr=>?_⟩
 have:=withF_pr h1.srt (fun r hr=>(h2 r hr).2) h0 (show a<a+n by omega) hh (B:=D.ps) (fun r hr=>(h2 r hr).1) hs r hr
 omega
theorem withF_find (h:rightL D.ps L=true) (h0:0≤a) (hn:1≤n) {how:Int} (x:Int):findB (withF L a (a+n) how) x=if a≤x∧x<a+n then decide (how≠ -1) else findB L x:=by
 obtain ⟨h1,h2⟩:=right_iff.1 h
 obtain ⟨_,w2⟩:=withF_spec (how:=how) h1.srt (fun r hr=>by have:=h2 r hr;omega) h0 (show a<a+n by omega)
 rw [findB_at,w2 x,findB_at]
 split
 · unfold wayO
   by_cases e:how= -1
   · rw [if_pos e];simp [e]
   · rw [if_neg e];simp [e]
 · rfl
theorem map_dist (h:RgsOk D L) (hD:D.Ok) (h1:pagesB D a n=true) (h3:piecesF L a (a+n)=[]):RgDist (L ++ [⟨a,a+n,p⟩]):=by
 obtain ⟨g1,g2⟩:=right_iff.1 h.1
 obtain ⟨b1,b2,b3⟩:=pages_of h1
 have b8:=hD.b8
 have hd:=(pieces_nil (fun r hr=>(g1.srt.mem hr).2) (show a<a+n by omega)).1 h3
 refine ⟨fun x hx=>?_,fun x hx y hy e=>?_⟩
 · rcases List.mem_append.1 hx with hx|hx
   · have:=g1.srt.mem hx
     have:=g2 x hx
     omega
   · simp at hx
     subst hx
     simp only
     omega
 · rcases List.mem_append.1 hx with hx|hx<;>rcases List.mem_append.1 hy with hy|hy
   · have:=g1.srt.at_iff x.lo x.pr
     have e1:=this.2 ⟨x,hx,Int.le_refl _,(g1.srt.mem hx).2,rfl⟩
     obtain ⟨i,hi,ex⟩:=List.mem_iff_getElem.1 hx
     obtain ⟨j,hj,ey⟩:=List.mem_iff_getElem.1 hy
     have hp:=List.pairwise_iff_getElem.1 g1.srt.pair
     have m1:=(g1.srt.mem hx).2
     have m2:=(g1.srt.mem hy).2
     rcases Nat.lt_trichotomy i j with c|c|c
     · have:=hp i j hi hj c
       rw [ex,ey] at this
       omega
     · subst c
       rw [←ex,←ey]
     · have:=hp j i hj hi c
       rw [ex,ey] at this
       omega
   · simp at hy
     subst hy
     have:=hd x hx
     have:=(g1.srt.mem hx).2
     simp only at e
     omega
   · simp at hx
     subst hx
     have:=hd y hy
     have:=(g1.srt.mem hy).2
     simp only at e
     omega
   · simp at hx hy
     rw [hx,hy]
theorem cut_right (h:RgsOk D L) (h1:pagesB D a n=true):CanR 0 none (cutR L a (a+n))∧(∀r∈cutR L a (a+n),r.hi≤D.ps∧0≤r.pr∧r.pr≤3)∧∀r∈cutR L a (a+n),r.hi≤a∨a+n≤r.lo:=by
 obtain ⟨g1,g2⟩:=right_iff.1 h.1
 obtain ⟨b1,b2,b3⟩:=pages_of h1
 have e:=unmap_same g1 (fun r hr=>by have:=g2 r hr;omega) b2 (show a<a+n by omega)
 have hw:=right_iff.1 (withF_right (how:= -1) h.1 b2 b1 b3 (by omega))
 rw [e]
 refine ⟨hw.1,hw.2,fun r hr=>?_⟩
 have hm:=hw.1.srt.mem hr
 obtain ⟨_,w2⟩:=withF_spec (how:= -1) g1.srt (fun r hr=>by have:=g2 r hr;omega) b2 (show a<a+n by omega)
 have key:∀x,r.lo≤x→x<r.hi→¬(a≤x∧x<a+n):=by
  intro x x1 x2 c
  have e:=(hw.1.srt.at_iff x r.pr).2 ⟨r,hr,x1,x2,rfl⟩
  rw [w2,if_pos c] at e
  cases e
 have k1:=key r.lo (Int.le_refl _) hm.2
 have k2:=key (r.hi-1) (by omega) (by omega)
 by_cases c:r.lo<a
 · by_cases c2:r.hi≤a
   · exact .inl c2
   · have:=key a (by omega) (by omega)
     omega
 · omega
theorem prot_dist (h:RgsOk D L) (hD:D.Ok) (h1:pagesB D a n=true):RgDist (cutR L a (a+n) ++ [⟨a,a+n,p⟩]):=by
 obtain ⟨c1,c2,c3⟩:=cut_right h h1
 obtain ⟨b1,b2,b3⟩:=pages_of h1
 have b8:=hD.b8
 refine ⟨fun x hx=>?_,fun x hx y hy e=>?_⟩
 · rcases List.mem_append.1 hx with hx|hx
   · have:=c1.srt.mem hx
     have:=c2 x hx
     omega
   · simp at hx
     subst hx
     simp only
     omega
 · rcases List.mem_append.1 hx with hx|hx<;>rcases List.mem_append.1 hy with hy|hy
   · obtain ⟨i,hi,ex⟩:=List.mem_iff_getElem.1 hx
     obtain ⟨j,hj,ey⟩:=List.mem_iff_getElem.1 hy
     have hp:=List.pairwise_iff_getElem.1 c1.srt.pair
     have m1:=(c1.srt.mem hx).2
     have m2:=(c1.srt.mem hy).2
     rcases Nat.lt_trichotomy i j with c|c|c
     · have:=hp i j hi hj c
       rw [ex,ey] at this
       omega
     · subst c
       rw [←ex,←ey]
     · have:=hp j i hj hi c
       rw [ex,ey] at this
       omega
   · simp at hy
     subst hy
     have:=c3 x hx
     have:=(c1.srt.mem hx).2
     simp only at e
     omega
   · simp at hx
     subst hx
     have:=c3 y hy
     have:=(c1.srt.mem hy).2
     simp only at e
     omega
   · simp at hx hy
     rw [hx,hy]
theorem map_right (h:RgsOk D L) (hz:(mappedF D L a n p).2=0):RgsOk D (mappedF D L a n p).1∧∀x,findB L x=true→findB (mappedF D L a n p).1 x=true:=by
 have h1:pagesB D a n=true:=pages_yes (R:=fitF D (mapF L a (a+n) p)) hz (by simp)
 obtain ⟨b1,b2,b3⟩:=pages_of h1
 unfold mappedF at hz ⊢
 rw [if_neg (by rw [h1];simp)] at hz ⊢
 obtain ⟨e1,e2,e3⟩:=fit_yes hz
 rw [e1]
 unfold mapF at e2 e3 ⊢
 split at e2
 · cases e2
 · rename_i c1
   split at e2
   · cases e2
   · rename_i c2
     rw [if_neg c1,if_neg c2] at e3
     rw [if_neg c1,if_neg c2]
     obtain ⟨g1,g2⟩:=right_iff.1 h.1
     have hpr:0≤p∧p≤3:=by
      have:rightB a (a+n) p=true:=by cases hb:rightB a (a+n) p with
       |true=>rfl
       |false=>exact absurd hb c1
      unfold rightB at this
      rw [Bool.and_eq_true] at this
      exact of_decide_eq_true this.2
     have hd:=(pieces_nil (fun r hr=>(g1.srt.mem hr).2) (show a<a+n by omega)).1 (by simpa using c2)
     have e:=map_same g1 (fun r hr=>by have:=g2 r hr;omega) b2 (show a<a+n by omega) (p:=p) (by omega) hd
     rw [e] at e3 ⊢
     refine ⟨⟨withF_right h.1 b2 b1 b3 (by omega),e3⟩,fun x hx=>?_⟩
     simp only
     rw [withF_find h.1 b2 b1]
     split
     · exact decide_eq_true (by omega)
     · exact hx
theorem unmap_right (h:RgsOk D L) (hz:(unmappedF D L a n).2=0):RgsOk D (unmappedF D L a n).1∧(0≤a∧1≤n∧a+n≤D.ps)∧∀x,findB L x=true→¬inU a n x→findB (unmappedF D L a n).1 x=true:=by
 have h1:pagesB D a n=true:=pages_yes (R:=fitF D (cutR L a (a+n),0)) hz (by simp)
 obtain ⟨b1,b2,b3⟩:=pages_of h1
 unfold unmappedF at hz ⊢
 rw [if_neg (by rw [h1];simp)] at hz ⊢
 obtain ⟨e1,e2,e3⟩:=fit_yes hz
 rw [e1]
 obtain ⟨g1,g2⟩:=right_iff.1 h.1
 have e:=unmap_same g1 (fun r hr=>by have:=g2 r hr;omega) b2 (show a<a+n by omega)
 simp only at e3 ⊢
 rw [e] at e3 ⊢
 refine ⟨⟨withF_right h.1 b2 b1 b3 (by omega),e3⟩,⟨b2,b1,b3⟩,fun x hx hn=>?_⟩
 rw [withF_find h.1 b2 b1,if_neg (show ¬(a≤x∧x<a+n) from hn)]
 exact hx
theorem prot_right (h:RgsOk D L) (hz:(protectedF D L a n p).2=0):RgsOk D (protectedF D L a n p).1∧∀x,findB L x=true→findB (protectedF D L a n p).1 x=true:=by
 have h1:pagesB D a n=true:=pages_yes (R:=fitF D (protF L a (a+n) p)) hz (by simp)
 obtain ⟨b1,b2,b3⟩:=pages_of h1
 unfold protectedF at hz ⊢
 rw [if_neg (by rw [h1];simp)] at hz ⊢
 obtain ⟨e1,e2,e3⟩:=fit_yes hz
 rw [e1]
 unfold protF at e2 e3 ⊢
 split at e2
 · cases e2
 · rename_i c1
   split at e2
   · cases e2
   · rename_i c2
     rw [if_neg c1,if_neg c2] at e3
     rw [if_neg c1,if_neg c2]
     obtain ⟨g1,g2⟩:=right_iff.1 h.1
     have hpr:0≤p∧p≤3:=by
      have:rightB a (a+n) p=true:=by cases hb:rightB a (a+n) p with
       |true=>rfl
       |false=>exact absurd hb c1
      unfold rightB at this
      rw [Bool.and_eq_true] at this
      exact of_decide_eq_true this.2
     have e:=prot_same g1 (fun r hr=>by have:=g2 r hr;omega) b2 (show a<a+n by omega) (p:=p) (by omega)
     rw [e] at e3 ⊢
     refine ⟨⟨withF_right h.1 b2 b1 b3 (by omega),e3⟩,fun x hx=>?_⟩
     simp only
     rw [withF_find h.1 b2 b1]
     split
     · exact decide_eq_true (by omega)
     · exact hx
theorem check_find {ways:Int} (h:RgsOk D L) (hD:D.Ok) {at_:Int} (hz:checkF D L at_ n ways=0) {j:Nat} (h1:at_.toNat≤j) (h2:j<at_.toNat + n.toNat):findB L ((j / D.pg:Nat):Int)=true∧j / D.pg<D.ps:=by
 have b4:=hD.b4
 obtain ⟨g1,g2⟩:=right_iff.1 h.1
 unfold checkF at hz
 split at hz
 · cases hz
 · rename_i c1
   rw [if_neg (by omega)] at hz
   split at hz
   · rename_i c2
     have hp:(0:Int)<D.pg:=by omega
     have e0:at_ / D.pg≤(at_+n-1) / D.pg:=Int.ediv_le_ediv hp (by omega)
     rw [all_iff g1.srt (by omega)] at c2
     have e1:at_ / D.pg≤((j / D.pg:Nat):Int):=by
      rw [Int.natCast_ediv]
      exact Int.ediv_le_ediv hp (by omega)
     have e2:((j / D.pg:Nat):Int)≤(at_+n-1) / D.pg:=by
      rw [Int.natCast_ediv]
      exact Int.ediv_le_ediv hp (by omega)
     obtain ⟨q,hq,_⟩:=c2 _ e1 (by omega)
     refine ⟨by rw [findB_at,hq];rfl,?_⟩
     obtain ⟨r,hr,r1,r2,_⟩:=(g1.srt.at_iff _ _).1 hq
     have:=(g2 r hr).1
     omega
   · cases hz
end
section
variable {σ:Type} {K:SnkF σ} {M:Snk K} {P:PSnk K} {w w' w1 w2 w3:World} {d:PD} {t t' t1 t2:PSt σ} {C C' C1:Cu} {k k0 k1 k2:Nat} {l l' l1 l2:List Spc} {s s':Spc} {S:Nat→Prop}
theorem flat_zero {z:Nat} {mem:Nat→Bytes} {c:Nat} (h:mem (c / z)=zeros z):flatF z mem c=0:=by
 unfold flatF
 rw [h]
 exact zeros_getD _
structure UmD (s:Spc) (C C':Cu) (m':Pm) (dn:Int→Prop):Prop where
 flat:∀c,(¬dn ((c / s.D.pg:Nat):Int)→flatF s.D.pg (memF s.D.pg C' m') c=flatF s.D.pg (s.mem C) c)∧(dn ((c / s.D.pg:Nat):Int)→flatF s.D.pg (memF s.D.pg C' m') c=0)
 dom:∀i,(m' i).isSome=true ↔ (s.m i).isSome=true∧¬dn i
 sub:∀i id,m' i=some id→s.m i=some id
theorem lo_mem (h:SW M P w d t C k0 (s::l)) (dn:Int→Prop):UmD s C (loC C s.m dn) (loM s.m dn) dn∧∀x∈l,x.mem (loC C s.m dn)=x.mem C:=by
 have hi:=h.inj s List.mem_cons_self
 have hu:=h.us.lo hi dn
 have hin:∀m∈loM s.m dn::l.map (·.m),∀i id,m i=some id→∃p u,loC C s.m dn id=some p∧C id=some (p.1,u):=fun m hm i id hid=>by
  obtain ⟨p,hp⟩:=hu.at hm hid
  obtain ⟨u,hu⟩:=lo_bytes hp
  exact ⟨p,u,hp,hu⟩
 refine ⟨⟨fun c=>⟨fun hd=>?_,fun hd=>?_⟩,fun i=>?_,fun i id hid=>?_⟩,fun x hx=>memF_same fun i id hm=>hin x.m (List.mem_cons_of_mem _ (List.mem_map.2 ⟨x,hx,rfl⟩)) i id hm⟩
 · unfold flatF
   congr 1
   unfold Spc.mem memF
   have e:loM s.m dn ((c / s.D.pg:Nat):Int)=s.m ((c / s.D.pg:Nat):Int):=by unfold loM;rw [if_neg hd]
   rw [e]
   cases hm:s.m ((c / s.D.pg:Nat):Int) with
   |none=>rfl
   | some id=>
     obtain ⟨p,u,h1,h2⟩:=hin _ List.mem_cons_self _ id (e.trans hm)
     simp only [h1,h2]
 · refine flat_zero ?_
   unfold memF
   have e:loM s.m dn ((c / s.D.pg:Nat):Int)=none:=by unfold loM;rw [if_pos hd]
   rw [e]
 · unfold loM
   split
   · rename_i hd
     simp [hd]
   · rename_i hd
     simp [hd]
 · unfold loM at hid
   split at hid
   · cases hid
   · exact hid
def UmW (M:Snk K) (P:PSnk K) (w:World) (d:PD) (t:PSt σ) (C:Cu) (k:Nat) (s:Spc) (l:List Spc) (a j:Int) (e:Ending) (w':World):Prop:=
 e =.returned (.int .i64 (unmappedF s.D s.L a j).2)∧∃t' C' A' cap' L' m' n',SW M P w' d t' C' k ({s with A:=A',cap:=cap',L:=L',m:=m',n:=n'}::l)∧SwN P w w' d t t' (s::l) ({s with A:=A',cap:=cap',L:=L',m:=m',n:=n'}::l)∧t'.nx=t.nx∧(∀x∈l,x.mem C'=x.mem C)∧
   (((unmappedF s.D s.L a j).2=0∧L'=(unmappedF s.D s.L a j).1∧UmD s C C' m' (inU a j))∨((unmappedF s.D s.L a j).2≠0∧L'=s.L∧C'=C∧m'=s.m))
theorem SW.unmap (h:SW M P w d t C k (s::l)) (hr:RgOk s) (a j:Int):
 Calls Tryz.prog 117 #[.pointer (some ⟨s.D.X,0,none⟩),.int .i64 a,.int .i64 j] w (UmW M P w d t C k s l a j):=by
 have g:=h.ss s List.mem_cons_self
 have hi:=h.inj s List.mem_cons_self
 have b8:=g.ok.b8
 refine (unmap_b g a j hi (fun i id hm=>by have:=hr.rng i id hm;omega) (fun i id b u hm hc=>by have:=h.use List.mem_cons_self hm hc;omega)).mono ?_
 rintro e w' ⟨t',rfl,hx,hnx,hc⟩
 have hS':∀q,(q=s.D.Mm∨q=s.D.X)→s.ow q:=fun q hq=>by
  rcases hq with rfl|rfl
  · exact .inr (.inl rfl)
  · exact .inl rfl
 refine ⟨rfl,t',?_⟩
 rcases hc with ⟨c1,A',cap',n',hs,hA⟩|⟨c1,hs⟩
 · obtain ⟨hd,hm⟩:=lo_mem h (inU a j)
   obtain ⟨h1,h2⟩:=h.next (s':={s with A:=A',cap:=cap',L:=(unmappedF s.D s.L a j).1,m:=loM s.m (inU a j),n:=n'}) hx hS' hs (h.us.lo hi _) (inj_lo hi) (fun q hq=>by
    rcases hq with hq|hq|hq
    · exact .inl (.inl hq)
    · exact .inl (.inr (.inl hq))
    · exact .inr (hA q hq))
   exact ⟨_,A',cap',_,_,n',h1,h2,hnx,hm,.inl ⟨c1,rfl,hd⟩⟩
 · obtain ⟨h1,h2⟩:=h.next (s':=s) hx hS' hs h.us hi (fun q=>.inl)
   exact ⟨C,s.A,s.cap,s.L,s.m,s.n,h1,h2,hnx,fun _ _=>rfl,.inr ⟨c1,rfl,rfl,rfl⟩⟩
def ClW (M:Snk K) (P:PSnk K) (w:World) (d:PD) (t:PSt σ) (C:Cu) (k:Nat) (s:Spc) (l:List Spc) (e:Ending) (w':World):Prop:=
 e=.returned (.tuple #[])∧∃t' C',SW M P w' d t' C' k l∧SwN P w w' d t t' (s::l) l∧t'.nx=t.nx∧(∀x∈l,x.mem C'=x.mem C)∧SS M P w' d t' C' k s.D none 0 [] (fun _=>none) 0∧∀q,spO s.D none 0 q→s.ow q
theorem SW.drop (h:SW M P w d t C k (s::l)) (hm:∀i,s.m i=none):SW M P w d t C k l:=
 ⟨h.pv,fun x hx=>h.ss x (List.mem_cons_of_mem _ hx),(List.pairwise_cons.1 h.dj).2,h.us.drop hm,fun x hx=>h.inj x (List.mem_cons_of_mem _ hx),by have:=h.num;rw [List.length_cons] at this;omega⟩
theorem SW.close (h:SW M P w d t C k (s::l)):
 Calls Tryz.prog 33 #[.pointer (some ⟨s.D.X,0,none⟩)] w (ClW M P w d t C k s l):=by
 have g:=h.ss s List.mem_cons_self
 have hi:=h.inj s List.mem_cons_self
 refine (close_b g hi (fun i id b u hm hc=>by have:=h.use List.mem_cons_self hm hc;omega)).mono ?_
 rintro e w' ⟨t',rfl,hx,hnx,hs⟩
 have hS':∀q,(q=s.D.Mm∨q=s.D.X)→s.ow q:=fun q hq=>by
  rcases hq with rfl|rfl
  · exact .inr (.inl rfl)
  · exact .inl rfl
 obtain ⟨hd,hm⟩:=lo_mem h (fun _=>True)
 have e0:loM s.m (fun _=>True)=fun _=>none:=by funext i;unfold loM;rw [if_pos trivial]
 have hus:=h.us.lo hi (fun _=>True)
 rw [e0] at hus
 have how:∀q,spO s.D none 0 q→s.ow q:=fun q hq=>by
  rcases hq with hq|hq|⟨hq,_⟩
  · exact .inl hq
  · exact .inr (.inl hq)
  · omega
 obtain ⟨h1,h2⟩:=h.next (s':={s with A:=none,cap:=0,L:=[],m:=fun _=>none,n:=0}) hx hS' hs hus (fun i j id e=>by cases e) (fun q hq=>.inl (how q hq))
 refine ⟨rfl,t',_,h1.drop (fun _=>rfl),⟨h2.off,fun q hq=>h2.own q ?_,h2.rm⟩,hnx,hm,hs,how⟩
 rcases hq with hq|⟨x,hx,hq⟩
 · exact .inl hq
 · exact .inr ⟨x,List.mem_cons_of_mem _ hx,hq⟩
theorem SW.page (h:SW M P w d t C k0 l) (hx:Nx P w w' d t t') (hv:Pv M P w' d t' C k):SW M P w' d t' C k l∧SwN P w w' d t t' l l:=by
 refine ⟨⟨hv,fun x hx2=>(h.ss x hx2).pg hv hx (h.ss x hx2).has,h.dj,h.us,h.inj,h.num⟩,⟨hx.off.mono fun b hb=>.inl hb,?_,hx.rm⟩⟩
 rintro q (hq|⟨x,hx2,hq⟩)
 · exact (hx.own q hq).imp .inl id
 · exact .inl (.inr ⟨x,hx2,hq⟩)
def PgW (M:Snk K) (P:PSnk K) (w:World) (d:PD) (t:PSt σ) (C:Cu) (k:Nat) (l:List Spc) (w':World):Prop:=∃t',SW M P w' d t' C k l∧SwN P w w' d t t' l l∧t'.nx=t.nx∧t'.cm=t.cm
theorem SW.evict (hK:K.Good) (hmi:P.Miss) (h:SW M P w d t C (k+(d.n+1)) l) (n:Int):Calls Tryz.prog 47 #[.pointer (some ⟨d.Q,0,none⟩),.int .i64 n] w fun e w'=>∃v:Int,e=.returned (.int .i64 v)∧PgW M P w d t C k l w':=by
 refine (pv_evict hK hmi h.pv n).mono ?_
 rintro e w' ⟨t',v,rfl,hv,hx,h1,h2⟩
 obtain ⟨g1,g2⟩:=h.page hx hv
 exact ⟨v,rfl,t',g1,g2,h1,h2⟩
end
structure PgRel (s:Spc) (C:Cu) (p:PrP):Prop where
 R:s.L=p.R
 ok:PgOk s.D.pg p.L
 dom:∀i,(s.m i).isSome=true ↔ ∃n,domL p.L n∧(n:Int)=i
 ld:∀c,ldB s.D.pg p.L c=flatF s.D.pg (s.mem C) c
 rg:RgOk s
section
variable {s s' x:Spc} {C C':Cu} {p p':PrP} {m':Pm} {n' N a:Nat} {bs:Bytes}
theorem PgRel.mem (h:PgRel s C p) (e:s.mem C'=s.mem C):PgRel s C' p:=⟨h.R,h.ok,h.dom,by rw [e];exact h.ld,h.rg⟩
theorem PgRel.rgs (h:PgRel s C p):RgsOk s.D s.L:=⟨h.rg.right,h.rg.len⟩
theorem PgRel.new {D:SpD} {A:Option Addr} {cap n:Nat} (hD:D.Ok):PgRel ⟨D,A,cap,[],fun _=>none,n⟩ C ⟨[],[]⟩:=by
 refine ⟨rfl,PgOk.nil,fun i=>⟨fun h=>(by cases h),?_⟩,fun c=>?_,⟨right_iff.2 ⟨trivial,fun r hr=>(by cases hr)⟩,Nat.zero_le _,fun i id h=>(by cases h),fun i id h=>(by cases h)⟩⟩
 · rintro ⟨n,h,_⟩
   exact absurd h domL_nil
 · exact (flat_zero rfl).symm
theorem PgRel.fork (h:PgRel s C p) {D:SpD} {A:Option Addr} {cap n:Nat} (e:s.mem C'=s.mem C) (h1:D.pg=s.D.pg) (h2:D.rg=s.D.rg) (h3:D.ps=s.D.ps):PgRel ⟨D,A,cap,s.L,s.m,n⟩ C' p:=by
 obtain ⟨r1,r2,r3,r4⟩:=h.rg
 refine ⟨h.R,by simp only;rw [h1];exact h.ok,h.dom,fun c=>?_,⟨?_,?_,r3,?_⟩⟩
 · have:=h.ld c
   rw [←e] at this
   unfold Spc.mem at *
   simp only
   rw [h1]
   exact this
 · simp only;rw [h3];exact r1
 · simp only;rw [h2];exact r2
 · simp only;rw [h3];exact r4
theorem PgRel.store (h:PgRel s C p) (hD:s.D.Ok) {at_:Int} (hz:checkF s.D s.L at_ bs.length 2=0) (hw:StW s C C' m' N at_.toNat bs):PgRel {s with m:=m',n:=n'} C' ⟨p.R,stL s.D.pg p.L at_.toNat bs⟩:=by
 have hp:0<s.D.pg:=by have:=hD.b4;omega
 have hin:=fun (j:Nat) (h1:at_.toNat≤j) (h2:j<at_.toNat + bs.length)=>check_find h.rgs hD hz h1 (by simpa using h2)
 have hrg:∀i id,m' i=some id→findB s.L i=true∧0≤i∧i<s.D.ps:=fun i id hm=>by
  rcases (hw.dom i).1 (by rw [hm];rfl) with e|⟨j,j1,j2,rfl⟩
  · cases e2:s.m i with
    |none=>rw [e2] at e;cases e
    |some id2=>exact ⟨h.rg.has i id2 e2,h.rg.rng i id2 e2⟩
  · obtain ⟨e1,e2⟩:=hin j j1 j2
    exact ⟨e1,Int.natCast_nonneg _,Int.ofNat_lt.2 e2⟩
 refine ⟨h.R,stL_ok bs _ h.ok,fun i=>?_,fun c=>?_,⟨h.rg.right,h.rg.len,fun i id hm=>(hrg i id hm).1,fun i id hm=>(hrg i id hm).2⟩⟩
 · simp only
   rw [hw.dom i,h.dom i]
   constructor
   · rintro (⟨n,h1,h2⟩|⟨j,j1,j2,j3⟩)
     · exact ⟨n,(stL_dom bs _ n).2 (.inl h1),h2⟩
     · exact ⟨j / s.D.pg,(stL_dom bs _ _).2 (.inr ⟨j,j1,j2,rfl⟩),j3⟩
   · rintro ⟨n,h1,h2⟩
     rcases (stL_dom bs _ n).1 h1 with e|⟨j,j1,j2,j3⟩
     · exact .inl ⟨n,e,h2⟩
     · exact .inr ⟨j,j1,j2,by rw [j3];exact h2⟩
 · show ldB s.D.pg (stL s.D.pg p.L at_.toNat bs) c=flatF s.D.pg (memF s.D.pg C' m') c
   rw [stL_ld hp bs _ h.ok,hw.flat c,h.ld c]
theorem PgRel.regs (h:PgRel s C p) {A:Option Addr} {cap:Nat} {L:List Rg} (h1:RgsOk s.D L) (h2:∀x,findB s.L x=true→findB L x=true):PgRel {s with A:=A,cap:=cap,L:=L} C ⟨L,p.L⟩:=
 ⟨rfl,h.ok,h.dom,h.ld,⟨h1.1,h1.2,fun i id hm=>h2 i (h.rg.has i id hm),h.rg.rng⟩⟩
theorem keepU_iff {a n:Int} {m:Nat}:keepU a n m=true ↔ ¬inU a n (m:Int):=by
 unfold keepU inU
 rw [decide_eq_true_eq]
 omega
theorem PgRel.unmap (h:PgRel s C p) (hD:s.D.Ok) {a n:Int} {A:Option Addr} {cap:Nat} {L:List Rg} (h1:RgsOk s.D L) (h2:∀x,findB s.L x=true→¬inU a n x→findB L x=true) (hw:UmD s C C' m' (inU a n)):
 PgRel {s with A:=A,cap:=cap,L:=L,m:=m',n:=n'} C' ⟨L,p.L.filter fun q=>keepU a n q.1⟩:=by
 have hno:∀i id,m' i=some id→s.m i=some id∧¬inU a n i:=fun i id hm=>⟨hw.sub i id hm,((hw.dom i).1 (by rw [hm];rfl)).2⟩
 refine ⟨rfl,dropL_ok h.ok _,fun i=>?_,fun c=>?_,⟨h1.1,h1.2,fun i id hm=>h2 i (h.rg.has i id (hno i id hm).1) (hno i id hm).2,fun i id hm=>h.rg.rng i id (hno i id hm).1⟩⟩
 · simp only
   rw [hw.dom i,h.dom i]
   constructor
   · rintro ⟨⟨j,j1,rfl⟩,j3⟩
     exact ⟨j,(dropL_dom (keepU a n)).2 ⟨j1,keepU_iff.2 j3⟩,rfl⟩
   · rintro ⟨j,j1,rfl⟩
     obtain ⟨g1,g2⟩:=(dropL_dom (keepU a n)).1 j1
     exact ⟨⟨j,g1,rfl⟩,keepU_iff.1 g2⟩
 · show ldB s.D.pg (p.L.filter fun q=>keepU a n q.1) c=flatF s.D.pg (memF s.D.pg C' m') c
   rw [dropL_ld h.ok (keepU a n) c]
   by_cases e:inU a n ((c / s.D.pg:Nat):Int)
   · rw [if_neg (fun g=>keepU_iff.1 g e),(hw.flat c).2 e]
   · rw [if_pos (keepU_iff.2 e),(hw.flat c).1 e,h.ld c]
theorem PgRel.load (h:PgRel s C p) (a n:Nat):rngF (flatF s.D.pg (s.mem C)) a n=ldN s.D.pg p.L a n:=by
 unfold rngF ldN
 exact List.map_congr_left fun i _=>(h.ld (a+i)).symm
theorem rising_eq:∀{l m:List Int},l.Pairwise (· < ·)→m.Pairwise (· < ·)→(∀x,x∈l ↔ x∈m)→l=m
 |[],[],_,_,_=>rfl
 |[],y::m,_,_,h=>absurd ((h y).2 List.mem_cons_self) (by simp)
 |x::l,[],_,_,h=>absurd ((h x).1 List.mem_cons_self) (by simp)
 | x ::l,y::m,h1,h2,h=>by
   obtain ⟨a1,a2⟩:=List.pairwise_cons.1 h1
   obtain ⟨b1,b2⟩:=List.pairwise_cons.1 h2
   have e:x=y:=by
    rcases List.mem_cons.1 ((h x).1 List.mem_cons_self) with e|e
    · exact e
    · rcases List.mem_cons.1 ((h y).2 List.mem_cons_self) with e2|e2
      · exact e2.symm
      · have:=b1 x e
        have:=a1 y e2
        omega
   subst e
   rw [rising_eq a2 b2 fun z=>?_]
   by_cases c:z=x
   · subst c
     exact ⟨fun e=>absurd (a1 z e) (by omega),fun e=>absurd (b1 z e) (by omega)⟩
   · have:=h z
     rw [List.mem_cons,List.mem_cons] at this
     constructor
     · exact fun e=>(this.1 (.inr e)).resolve_left c
     · exact fun e=>(this.2 (.inr e)).resolve_left c
def keysL (L:PgL):List Int:=L.map fun q=>((q.1:Nat):Int)
theorem keysL_up {z:Nat} {L:PgL} (h:PgOk z L):(keysL L).Pairwise (· < ·):=by
 unfold keysL
 rw [List.pairwise_map]
 exact h.1.imp fun e=>by omega
theorem keysL_mem {L:PgL} {i:Int}:i∈keysL L ↔ ∃n,domL L n∧(n:Int)=i:=by
 unfold keysL domL
 rw [List.mem_map]
 constructor
 · rintro ⟨q,hq,rfl⟩
   exact ⟨q.1,⟨q,hq,rfl⟩,rfl⟩
 · rintro ⟨n,⟨q,hq,rfl⟩,rfl⟩
   exact ⟨q,hq,rfl⟩
theorem PgRel.cnt (h:PgRel s C p) {w:World} (hs:SpAt w s.D s.A s.cap s.L s.m s.n):s.n=p.L.length:=by
 have:=cnt_list hs.mp (l:=keysL p.L) ((keysL_up h.ok).imp fun e=>by omega) fun i=>by rw [keysL_mem,h.dom i]
 rw [this]
 simp [keysL]
theorem PgRel.slots (h:PgRel s C p) {l:List (Int×Int)} (hl:SlOf s.m s.n l):l.map (·.1)=keysL p.L:=by
 refine rising_eq (by rw [List.pairwise_map];exact hl.up) (keysL_up h.ok) fun i=>?_
 rw [keysL_mem,←h.dom i,List.mem_map]
 constructor
 · rintro ⟨⟨k,id⟩,hk,rfl⟩
   rw [(hl.mem k id).1 hk];rfl
 · intro e
   cases hm:s.m i with
   |none=>rw [hm] at e;cases e
   |some id=>exact ⟨(i,id),(hl.mem i id).2 hm,rfl⟩
theorem PgRel.page (h:PgRel s C p) (hD:s.D.Ok) {q:Nat×Bytes} (hq:q∈p.L) {id:Int} (hm:s.m (q.1:Nat)=some id) {b:Bytes} {u:Int} (hc:C id=some (b,u)) (hl:b.length=s.D.pg):b=q.2:=by
 have hp:0<s.D.pg:=by have:=hD.b4;omega
 have hl2:=h.ok.2 q hq
 apply List.ext_getElem?
 intro j
 by_cases hj:j<s.D.pg
 · have d:(q.1*s.D.pg+j) / s.D.pg=q.1:=by rw [Nat.mul_comm,Nat.mul_add_div hp,Nat.div_eq_of_lt hj,Nat.add_zero]
   have m:(q.1*s.D.pg+j)%s.D.pg=j:=by rw [Nat.mul_comm,Nat.mul_add_mod,Nat.mod_eq_of_lt hj]
   have e:=h.ld (q.1*s.D.pg+j)
   rw [ldB_at h.ok hq d.symm,m] at e
   unfold flatF Spc.mem memF at e
   rw [d,m,hm] at e
   simp only [hc] at e
   rw [List.getD_eq_getElem?_getD,List.getD_eq_getElem?_getD,List.getElem?_eq_getElem (by omega),List.getElem?_eq_getElem (by omega)] at e
   rw [List.getElem?_eq_getElem (by omega),List.getElem?_eq_getElem (by omega)]
   exact congrArg some e.symm
 · rw [List.getElem?_eq_none (by omega),List.getElem?_eq_none (by omega)]
end
end Go.Proofs.YtlhfjaagkgengaaGreat
