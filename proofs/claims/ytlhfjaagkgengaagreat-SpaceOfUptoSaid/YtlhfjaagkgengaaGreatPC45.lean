/- A space's regions stay right. Spaces on one pager: pages are let go, a space is closed; the pager itself. A space and the document's process: that they hold the same. The world of almanaclaw16: spaces -/
import Derived.Test.YtlhfjaagkgengaaGreatPC44
namespace Go.Proofs.YtlhfjaagkgengaaGreat
open Go.RowKit Go.Maps
set_option linter.unusedVariables false
set_option linter.unusedSimpArgs false
theorem findB_at:∀{L:List Rg} {x:Int},findB L x=(atR L x).isSome
 |[],_=>rfl
 | r ::L,x=>by
   unfold findB atR
   rw [List.any_cons]
   split
   · rename_i h
     rw [decide_eq_true h];rfl
   · rename_i h
     rw [decide_eq_false h,Bool.false_or]
     exact findB_at
section
variable {D:SpD} {L:List Rg} {a n p:Int}
def RgsOk (D:SpD) (L:List Rg):Prop:=rightL D.ps L=true∧L.length≤D.rg
theorem pages_of (h:pagesB D a n=true):1≤n∧0≤a∧a+n≤D.ps:=by
 have:=of_decide_eq_true h
 omega
theorem pages_yes {x:List Rg×Int} {R:List Rg×Int} (hz:(if pagesB D a n=false then x else R).2=0) (hx:x.2≠0):pagesB D a n=true:=by
 cases hb:pagesB D a n with
 |true=>rfl
 |false=>rw [if_pos hb] at hz;exact absurd hz hx
theorem fit_yes {R:List Rg×Int} (hz:(fitF D R).2=0):fitF D R=R∧R.2=0∧R.1.length≤D.rg:=by
 unfold fitF at hz ⊢
 split at hz
 · cases hz
 · rename_i h
   rw [if_neg h]
   exact ⟨rfl,hz,by omega⟩
theorem withF_right (h:rightL D.ps L=true) (h0:0≤a) (hn:1≤n) (hs:a+n≤D.ps) {how:Int} (hh:how≤3∧ -1≤how):rightL D.ps (withF L a (a+n) how)=true:=by
 obtain ⟨h1,h2⟩:=right_iff.1 h
 obtain ⟨w1,_⟩:=withF_spec (how:=how) h1.srt (fun r hr=>by have:=h2 r hr;omega) h0 (show a<a+n by omega)
 refine right_iff.2 ⟨w1,fun r hr=>?_⟩
 have:=withF_pr h1.srt (fun r hr=>(h2 r hr).2) h0 (show a<a+n by omega) hh (B:=D.ps) (fun r hr=>(h2 r hr).1) hs r hr
 omega
theorem withF_find (h:rightL D.ps L=true) (h0:0≤a) (hn:1≤n) {how:Int} (x:Int):findB (withF L a (a+n) how) x=if a≤x∧x<a+n then decide (how≠ -1) else findB L x:=by
 obtain ⟨h1,h2⟩:=right_iff.1 h
 obtain ⟨_,w2⟩:=withF_spec (how:=how) h1.srt (fun r hr=>by have:=h2 r hr;omega) h0 (show a<a+n by omega)
 rw [findB_at,w2 x,findB_at]
 split
 · unfold wayO
   by_cases e:how= -1
   · rw [if_pos e];simp [e]
   · rw [if_neg e];simp [e]
 · rfl
theorem map_dist (h:RgsOk D L) (hD:D.Ok) (h1:pagesB D a n=true) (h3:piecesF L a (a+n)=[]):RgDist (L ++ [⟨a,a+n,p⟩]):=by
 obtain ⟨g1,g2⟩:=right_iff.1 h.1
 obtain ⟨b1,b2,b3⟩:=pages_of h1
 have b8:=hD.b8
 have hd:=(pieces_nil (fun r hr=>(g1.srt.mem hr).2) (show a<a+n by omega)).1 h3
 refine ⟨fun x hx=>?_,fun x hx y hy e=>?_⟩
 · rcases List.mem_append.1 hx with hx|hx
   · have:=g1.srt.mem hx
     have:=g2 x hx
     omega
   · simp at hx
     subst hx
     simp only
     omega
 · rcases List.mem_append.1 hx with hx|hx<;>rcases List.mem_append.1 hy with hy|hy
   · have:=g1.srt.at_iff x.lo x.pr
     have e1:=this.2 ⟨x,hx,Int.le_refl _,(g1.srt.mem hx).2,rfl⟩
     obtain ⟨i,hi,ex⟩:=List.mem_iff_getElem.1 hx
     obtain ⟨j,hj,ey⟩:=List.mem_iff_getElem.1 hy
     have hp:=List.pairwise_iff_getElem.1 g1.srt.pair
     have m1:=(g1.srt.mem hx).2
     have m2:=(g1.srt.mem hy).2
     rcases Nat.lt_trichotomy i j with c|c|c
     · have:=hp i j hi hj c
       rw [ex,ey] at this
       omega
     · subst c
       rw [←ex,←ey]
     · have:=hp j i hj hi c
       rw [ex,ey] at this
       omega
   · simp at hy
     subst hy
     have:=hd x hx
     have:=(g1.srt.mem hx).2
     simp only at e
     omega
   · simp at hx
     subst hx
     have:=hd y hy
     have:=(g1.srt.mem hy).2
     simp only at e
     omega
   · simp at hx hy
     rw [hx,hy]
theorem cut_right (h:RgsOk D L) (h1:pagesB D a n=true):CanR 0 none (cutR L a (a+n))∧(∀r∈cutR L a (a+n),r.hi≤D.ps∧0≤r.pr∧r.pr≤3)∧∀r∈cutR L a (a+n),r.hi≤a∨a+n≤r.lo:=by
 obtain ⟨g1,g2⟩:=right_iff.1 h.1
 obtain ⟨b1,b2,b3⟩:=pages_of h1
 have e:=unmap_same g1 (fun r hr=>by have:=g2 r hr;omega) b2 (show a<a+n by omega)
 have hw:=right_iff.1 (withF_right (how:= -1) h.1 b2 b1 b3 (by omega))
 rw [e]
 refine ⟨hw.1,hw.2,fun r hr=>?_⟩
 have hm:=hw.1.srt.mem hr
 obtain ⟨_,w2⟩:=withF_spec (how:= -1) g1.srt (fun r hr=>by have:=g2 r hr;omega) b2 (show a<a+n by omega)
 have key:∀x,r.lo≤x→x<r.hi→¬(a≤x∧x<a+n):=by
  intro x x1 x2 c
  have e:=(hw.1.srt.at_iff x r.pr).2 ⟨r,hr,x1,x2,rfl⟩
  rw [w2,if_pos c] at e
  cases e
 have k1:=key r.lo (Int.le_refl _) hm.2
 have k2:=key (r.hi-1) (by omega) (by omega)
 by_cases c:r.lo<a
 · by_cases c2:r.hi≤a
   · exact .inl c2
   · have:=key a (by omega) (by omega)
     omega
 · omega
theorem prot_dist (h:RgsOk D L) (hD:D.Ok) (h1:pagesB D a n=true):RgDist (cutR L a (a+n) ++ [⟨a,a+n,p⟩]):=by
 obtain ⟨c1,c2,c3⟩:=cut_right h h1
 obtain ⟨b1,b2,b3⟩:=pages_of h1
 have b8:=hD.b8
 refine ⟨fun x hx=>?_,fun x hx y hy e=>?_⟩
 · rcases List.mem_append.1 hx with hx|hx
   · have:=c1.srt.mem hx
     have:=c2 x hx
     omega
   · simp at hx
     subst hx
     simp only
     omega
 · rcases List.mem_append.1 hx with hx|hx<;>rcases List.mem_append.1 hy with hy|hy
   · obtain ⟨i,hi,ex⟩:=List.mem_iff_getElem.1 hx
     obtain ⟨j,hj,ey⟩:=List.mem_iff_getElem.1 hy
     have hp:=List.pairwise_iff_getElem.1 c1.srt.pair
     have m1:=(c1.srt.mem hx).2
     have m2:=(c1.srt.mem hy).2
     rcases Nat.lt_trichotomy i j with c|c|c
     · have:=hp i j hi hj c
       rw [ex,ey] at this
       omega
     · subst c
       rw [←ex,←ey]
     · have:=hp j i hj hi c
       rw [ex,ey] at this
       omega
   · simp at hy
     subst hy
     have:=c3 x hx
     have:=(c1.srt.mem hx).2
     simp only at e
     omega
   · simp at hx
     subst hx
     have:=c3 y hy
     have:=(c1.srt.mem hy).2
     simp only at e
     omega
   · simp at hx hy
     rw [hx,hy]
theorem map_right (h:RgsOk D L) (hz:(mappedF D L a n p).2=0):RgsOk D (mappedF D L a n p).1∧∀x,findB L x=true→findB (mappedF D L a n p).1 x=true:=by
 have h1:pagesB D a n=true:=pages_yes (R:=fitF D (mapF L a (a+n) p)) hz (by simp)
 obtain ⟨b1,b2,b3⟩:=pages_of h1
 unfold mappedF at hz ⊢
 rw [if_neg (by rw [h1];simp)] at hz ⊢
 obtain ⟨e1,e2,e3⟩:=fit_yes hz
 rw [e1]
 unfold mapF at e2 e3 ⊢
 split at e2
 · cases e2
 · rename_i c1
   split at e2
   · cases e2
   · rename_i c2
     rw [if_neg c1,if_neg c2] at e3
     rw [if_neg c1,if_neg c2]
     obtain ⟨g1,g2⟩:=right_iff.1 h.1
     have hpr:0≤p∧p≤3:=by
      have:rightB a (a+n) p=true:=by cases hb:rightB a (a+n) p with
       |true=>rfl
       |false=>exact absurd hb c1
      unfold rightB at this
      rw [Bool.and_eq_true] at this
      exact of_decide_eq_true this.2
     have hd:=(pieces_nil (fun r hr=>(g1.srt.mem hr).2) (show a<a+n by omega)).1 (by simpa using c2)
     have e:=map_same g1 (fun r hr=>by have:=g2 r hr;omega) b2 (show a<a+n by omega) (p:=p) (by omega) hd
     rw [e] at e3 ⊢
     refine ⟨⟨withF_right h.1 b2 b1 b3 (by omega),e3⟩,fun x hx=>?_⟩
     simp only
     rw [withF_find h.1 b2 b1]
     split
     · exact decide_eq_true (by omega)
     · exact hx
theorem unmap_right (h:RgsOk D L) (hz:(unmappedF D L a n).2=0):RgsOk D (unmappedF D L a n).1∧(0≤a∧1≤n∧a+n≤D.ps)∧∀x,findB L x=true→¬inU a n x→findB (unmappedF D L a n).1 x=true:=by
 have h1:pagesB D a n=true:=pages_yes (R:=fitF D (cutR L a (a+n),0)) hz (by simp)
 obtain ⟨b1,b2,b3⟩:=pages_of h1
 unfold unmappedF at hz ⊢
 rw [if_neg (by rw [h1];simp)] at hz ⊢
 obtain ⟨e1,e2,e3⟩:=fit_yes hz
 rw [e1]
 obtain ⟨g1,g2⟩:=right_iff.1 h.1
 have e:=unmap_same g1 (fun r hr=>by have:=g2 r hr;omega) b2 (show a<a+n by omega)
 simp only at e3 ⊢
 rw [e] at e3 ⊢
 refine ⟨⟨withF_right h.1 b2 b1 b3 (by omega),e3⟩,⟨b2,b1,b3⟩,fun x hx hn=>?_⟩
 rw [withF_find h.1 b2 b1,if_neg (show ¬(a≤x∧x<a+n) from hn)]
 exact hx
theorem prot_right (h:RgsOk D L) (hz:(protectedF D L a n p).2=0):RgsOk D (protectedF D L a n p).1∧∀x,findB L x=true→findB (protectedF D L a n p).1 x=true:=by
 have h1:pagesB D a n=true:=pages_yes (R:=fitF D (protF L a (a+n) p)) hz (by simp)
 obtain ⟨b1,b2,b3⟩:=pages_of h1
 unfold protectedF at hz ⊢
 rw [if_neg (by rw [h1];simp)] at hz ⊢
 obtain ⟨e1,e2,e3⟩:=fit_yes hz
 rw [e1]
 unfold protF at e2 e3 ⊢
 split at e2
 · cases e2
 · rename_i c1
   split at e2
   · cases e2
   · rename_i c2
     rw [if_neg c1,if_neg c2] at e3
     rw [if_neg c1,if_neg c2]
     obtain ⟨g1,g2⟩:=right_iff.1 h.1
     have hpr:0≤p∧p≤3:=by
      have:rightB a (a+n) p=true:=by cases hb:rightB a (a+n) p with
       |true=>rfl
       |false=>exact absurd hb c1
      unfold rightB at this
      rw [Bool.and_eq_true] at this
      exact of_decide_eq_true this.2
     have e:=prot_same g1 (fun r hr=>by have:=g2 r hr;omega) b2 (show a<a+n by omega) (p:=p) (by omega)
     rw [e] at e3 ⊢
     refine ⟨⟨withF_right h.1 b2 b1 b3 (by omega),e3⟩,fun x hx=>?_⟩
     simp only
     rw [withF_find h.1 b2 b1]
     split
     · exact decide_eq_true (by omega)
     · exact hx
theorem check_find {ways:Int} (h:RgsOk D L) (hD:D.Ok) {at_:Int} (hz:checkF D L at_ n ways=0) {j:Nat} (h1:at_.toNat≤j) (h2:j<at_.toNat + n.toNat):findB L ((j / D.pg:Nat):Int)=true∧j / D.pg<D.ps:=by
 have b4:=hD.b4
 obtain ⟨g1,g2⟩:=right_iff.1 h.1
 unfold checkF at hz
 split at hz
 · cases hz
 · rename_i c1
   rw [if_neg (by omega)] at hz
   split at hz
   · rename_i c2
     have hp:(0:Int)<D.pg:=by omega
     have e0:at_ / D.pg≤(at_+n-1) / D.pg:=Int.ediv_le_ediv hp (by omega)
     rw [all_iff g1.srt (by omega)] at c2
     have e1:at_ / D.pg≤((j / D.pg:Nat):Int):=by
      rw [Int.natCast_ediv]
      exact Int.ediv_le_ediv hp (by omega)
     have e2:((j / D.pg:Nat):Int)≤(at_+n-1) / D.pg:=by
      rw [Int.natCast_ediv]
      exact Int.ediv_le_ediv hp (by omega)
     obtain ⟨q,hq,_⟩:=c2 _ e1 (by omega)
     refine ⟨by rw [findB_at,hq];rfl,?_⟩
     obtain ⟨r,hr,r1,r2,_⟩:=(g1.srt.at_iff _ _).1 hq
     have:=(g2 r hr).1
     omega
   · cases hz
end
section
variable {σ:Type} {K:SnkF σ} {M:Snk K} {P:PSnk K} {w w' w1 w2 w3:World} {d:PD} {t t' t1 t2:PSt σ} {C C' C1:Cu} {k k0 k1 k2:Nat} {l l' l1 l2:List Spc} {s s':Spc} {S:Nat→Prop}
theorem flat_zero {z:Nat} {mem:Nat→Bytes} {c:Nat} (h:mem (c / z)=zeros z):flatF z mem c=0:=by
 unfold flatF
 rw [h]
 exact zeros_getD _
structure UmD (s:Spc) (C C':Cu) (m':Pm) (dn:Int→Prop):Prop where
 flat:∀c,(¬dn ((c / s.D.pg:Nat):Int)→flatF s.D.pg (memF s.D.pg C' m') c=flatF s.D.pg (s.mem C) c)∧(dn ((c / s.D.pg:Nat):Int)→flatF s.D.pg (memF s.D.pg C' m') c=0)
 dom:∀i,(m' i).isSome=true ↔ (s.m i).isSome=true∧¬dn i
 sub:∀i id,m' i=some id→s.m i=some id
theorem lo_mem (h:SW M P w d t C k0 (s::l)) (dn:Int→Prop):UmD s C (loC C s.m dn) (loM s.m dn) dn∧∀x∈l,x.mem (loC C s.m dn)=x.mem C:=by
 have hi:=h.inj s jM
 have hu:=h.us.lo hi dn
 have hin:∀m∈loM s.m dn::l.map (·.m),∀i id,m i=some id→∃p u,loC C s.m dn id=some p∧C id=some (p.1,u):=fun m hm i id hid=>by
  obtain ⟨p,hp⟩:=hu.at hm hid
  obtain ⟨u,hu⟩:=lo_bytes hp
  exact ⟨p,u,hp,hu⟩
 refine ⟨⟨fun c=>⟨fun hd=>?_,fun hd=>?_⟩,fun i=>?_,fun i id hid=>?_⟩,fun x hx=>memF_same fun i id hm=>hin x.m (jP (List.mem_map.2 ⟨x,hx,rfl⟩)) i id hm⟩
 · unfold flatF
   congr 1
   unfold Spc.mem memF
   have e:loM s.m dn ((c / s.D.pg:Nat):Int)=s.m ((c / s.D.pg:Nat):Int):=by unfold loM;rw [if_neg hd]
   rw [e]
   cases hm:s.m ((c / s.D.pg:Nat):Int) with
   |none=>rfl
   | some id=>
     obtain ⟨p,u,h1,h2⟩:=hin _ jM _ id (e.trans hm)
     simp only [h1,h2]
 · refine flat_zero ?_
   unfold memF
   have e:loM s.m dn ((c / s.D.pg:Nat):Int)=none:=by unfold loM;rw [if_pos hd]
   rw [e]
 · unfold loM
   split
   · rename_i hd
     simp [hd]
   · rename_i hd
     simp [hd]
 · unfold loM at hid
   split at hid
   · cases hid
   · exact hid
def UmW (M:Snk K) (P:PSnk K) (w:World) (d:PD) (t:PSt σ) (C:Cu) (k:Nat) (s:Spc) (l:List Spc) (a j:Int) (e:Ending) (w':World):Prop:=
 e =.returned (.int .i64 (unmappedF s.D s.L a j).2)∧∃t' C' A' cap' L' m' n',SW M P w' d t' C' k ({s with A:=A',cap:=cap',L:=L',m:=m',n:=n'}::l)∧SwN P w w' d t t' (s::l) ({s with A:=A',cap:=cap',L:=L',m:=m',n:=n'}::l)∧t'.nx=t.nx∧(∀x∈l,x.mem C'=x.mem C)∧
   (((unmappedF s.D s.L a j).2=0∧L'=(unmappedF s.D s.L a j).1∧UmD s C C' m' (inU a j))∨((unmappedF s.D s.L a j).2≠0∧L'=s.L∧C'=C∧m'=s.m))
theorem SW.unmap (h:SW M P w d t C k (s::l)) (hr:RgOk s) (a j:Int):
 Calls Tryz.prog 117 #[.pointer (some ⟨s.D.X,0,none⟩),.int .i64 a,.int .i64 j] w (UmW M P w d t C k s l a j):=by
 have g:=h.ss s jM
 have hi:=h.inj s jM
 have b8:=g.ok.b8
 refine (unmap_b g a j hi (fun i id hm=>by have:=hr.rng i id hm;omega) (fun i id b u hm hc=>by have:=h.use jM hm hc;omega)).mono ?_
 rintro e w' ⟨t',rfl,hx,hnx,hc⟩
 have hS':∀q,(q=s.D.Mm∨q=s.D.X)→s.ow q:=fun q hq=>by
  rcases hq with rfl|rfl
  · exact .inr (.inl rfl)
  · exact .inl rfl
 refine ⟨rfl,t',?_⟩
 rcases hc with ⟨c1,A',cap',n',hs,hA⟩|⟨c1,hs⟩
 · obtain ⟨hd,hm⟩:=lo_mem h (inU a j)
   obtain ⟨h1,h2⟩:=h.next (s':={s with A:=A',cap:=cap',L:=(unmappedF s.D s.L a j).1,m:=loM s.m (inU a j),n:=n'}) hx hS' hs (h.us.lo hi _) (inj_lo hi) (fun q hq=>by
    rcases hq with hq|hq|hq
    · exact .inl (.inl hq)
    · exact .inl (.inr (.inl hq))
    · exact .inr (hA q hq))
   exact ⟨_,A',cap',_,_,n',h1,h2,hnx,hm,.inl ⟨c1,rfl,hd⟩⟩
 · obtain ⟨h1,h2⟩:=h.next (s':=s) hx hS' hs h.us hi (fun q=>.inl)
   exact ⟨C,s.A,s.cap,s.L,s.m,s.n,h1,h2,hnx,fun _ _=>rfl,.inr ⟨c1,rfl,rfl,rfl⟩⟩
def ClW (M:Snk K) (P:PSnk K) (w:World) (d:PD) (t:PSt σ) (C:Cu) (k:Nat) (s:Spc) (l:List Spc) (e:Ending) (w':World):Prop:=
 e=.returned (.tuple #[])∧∃t' C',SW M P w' d t' C' k l∧SwN P w w' d t t' (s::l) l∧t'.nx=t.nx∧(∀x∈l,x.mem C'=x.mem C)∧SS M P w' d t' C' k s.D none 0 [] (fun _=>none) 0∧∀q,spO s.D none 0 q→s.ow q
theorem SW.drop (h:SW M P w d t C k (s::l)) (hm:∀i,s.m i=none):SW M P w d t C k l:=
 ⟨h.pv,fun x hx=>h.ss x (jP hx),(List.pairwise_cons.1 h.dj).2,h.us.drop hm,fun x hx=>h.inj x (jP hx),by have:=h.num;rw [List.length_cons] at this;omega⟩
theorem SW.close (h:SW M P w d t C k (s::l)):
 Calls Tryz.prog 33 #[.pointer (some ⟨s.D.X,0,none⟩)] w (ClW M P w d t C k s l):=by
 have g:=h.ss s jM
 have hi:=h.inj s jM
 refine (close_b g hi (fun i id b u hm hc=>by have:=h.use jM hm hc;omega)).mono ?_
 rintro e w' ⟨t',rfl,hx,hnx,hs⟩
 have hS':∀q,(q=s.D.Mm∨q=s.D.X)→s.ow q:=fun q hq=>by
  rcases hq with rfl|rfl
  · exact .inr (.inl rfl)
  · exact .inl rfl
 obtain ⟨hd,hm⟩:=lo_mem h (fun _=>True)
 have e0:loM s.m (fun _=>True)=fun _=>none:=by funext i;unfold loM;rw [if_pos trivial]
 have hus:=h.us.lo hi (fun _=>True)
 rw [e0] at hus
 have how:∀q,spO s.D none 0 q→s.ow q:=fun q hq=>by
  rcases hq with hq|hq|⟨hq,_⟩
  · exact .inl hq
  · exact .inr (.inl hq)
  · omega
 obtain ⟨h1,h2⟩:=h.next (s':={s with A:=none,cap:=0,L:=[],m:=fun _=>none,n:=0}) hx hS' hs hus (fun i j id e=>by cases e) (fun q hq=>.inl (how q hq))
 refine ⟨rfl,t',_,h1.drop (fun _=>rfl),⟨h2.off,fun q hq=>h2.own q ?_,h2.rm⟩,hnx,hm,hs,how⟩
 rcases hq with hq|⟨x,hx,hq⟩
 · exact .inl hq
 · exact .inr ⟨x,List.mem_cons_of_mem _ hx,hq⟩
theorem SW.page (h:SW M P w d t C k0 l) (hx:Nx P w w' d t t') (hv:Pv M P w' d t' C k):SW M P w' d t' C k l∧SwN P w w' d t t' l l:=by
 refine ⟨⟨hv,fun x hx2=>(h.ss x hx2).pg hv hx (h.ss x hx2).has,h.dj,h.us,h.inj,h.num⟩,⟨hx.off.mono fun b hb=>.inl hb,?_,hx.rm⟩⟩
 rintro q (hq|⟨x,hx2,hq⟩)
 · exact (hx.own q hq).imp .inl id
 · exact .inl (.inr ⟨x,hx2,hq⟩)
def PgW (M:Snk K) (P:PSnk K) (w:World) (d:PD) (t:PSt σ) (C:Cu) (k:Nat) (l:List Spc) (w':World):Prop:=∃t',SW M P w' d t' C k l∧SwN P w w' d t t' l l∧t'.nx=t.nx∧t'.cm=t.cm
theorem SW.evict (hK:K.Good) (hmi:P.Miss) (h:SW M P w d t C (k+(d.n+1)) l) (n:Int):Calls Tryz.prog 47 #[.pointer (some ⟨d.Q,0,none⟩),.int .i64 n] w fun e w'=>∃v:Int,e=.returned (.int .i64 v)∧PgW M P w d t C k l w':=by
 refine (pv_evict hK hmi h.pv n).mono ?_
 rintro e w' ⟨t',v,rfl,hv,hx,h1,h2⟩
 obtain ⟨g1,g2⟩:=h.page hx hv
 exact ⟨v,rfl,t',g1,g2,h1,h2⟩
end
structure PgRel (s:Spc) (C:Cu) (p:PrP):Prop where
 R:s.L=p.R
 ok:PgOk s.D.pg p.L
 dom:∀i,(s.m i).isSome=true ↔ ∃n,domL p.L n∧(n:Int)=i
 ld:∀c,ldB s.D.pg p.L c=flatF s.D.pg (s.mem C) c
 rg:RgOk s
section
variable {s s' x:Spc} {C C':Cu} {p p':PrP} {m':Pm} {n' N a:Nat} {bs:Bytes}
theorem PgRel.mem (h:PgRel s C p) (e:s.mem C'=s.mem C):PgRel s C' p:=⟨h.R,h.ok,h.dom,by rw [e];exact h.ld,h.rg⟩
theorem PgRel.rgs (h:PgRel s C p):RgsOk s.D s.L:=⟨h.rg.right,h.rg.len⟩
theorem PgRel.new {D:SpD} {A:Option Addr} {cap n:Nat} (hD:D.Ok):PgRel ⟨D,A,cap,[],fun _=>none,n⟩ C ⟨[],[]⟩:=by
 refine ⟨rfl,PgOk.nil,fun i=>⟨fun h=>(by cases h),?_⟩,fun c=>?_,⟨right_iff.2 ⟨trivial,fun r hr=>(by cases hr)⟩,Nat.zero_le _,fun i id h=>(by cases h),fun i id h=>(by cases h)⟩⟩
 · rintro ⟨n,h,_⟩
   exact absurd h domL_nil
 · exact (flat_zero rfl).symm
theorem PgRel.fork (h:PgRel s C p) {D:SpD} {A:Option Addr} {cap n:Nat} (e:s.mem C'=s.mem C) (h1:D.pg=s.D.pg) (h2:D.rg=s.D.rg) (h3:D.ps=s.D.ps):PgRel ⟨D,A,cap,s.L,s.m,n⟩ C' p:=by
 obtain ⟨r1,r2,r3,r4⟩:=h.rg
 refine ⟨h.R,by simp only;rw [h1];exact h.ok,h.dom,fun c=>?_,⟨?_,?_,r3,?_⟩⟩
 · have:=h.ld c
   rw [←e] at this
   unfold Spc.mem at *
   simp only
   rw [h1]
   exact this
 · simp only;rw [h3];exact r1
 · simp only;rw [h2];exact r2
 · simp only;rw [h3];exact r4
theorem PgRel.store (h:PgRel s C p) (hD:s.D.Ok) {at_:Int} (hz:checkF s.D s.L at_ bs.length 2=0) (hw:StW s C C' m' N at_.toNat bs):PgRel {s with m:=m',n:=n'} C' ⟨p.R,stL s.D.pg p.L at_.toNat bs⟩:=by
 have hp:0<s.D.pg:=by have:=hD.b4;omega
 have hin:=fun (j:Nat) (h1:at_.toNat≤j) (h2:j<at_.toNat + bs.length)=>check_find h.rgs hD hz h1 (by simpa using h2)
 have hrg:∀i id,m' i=some id→findB s.L i=true∧0≤i∧i<s.D.ps:=fun i id hm=>by
  rcases (hw.dom i).1 (by rw [hm];rfl) with e|⟨j,j1,j2,rfl⟩
  · cases e2:s.m i with
    |none=>rw [e2] at e;cases e
    |some id2=>exact ⟨h.rg.has i id2 e2,h.rg.rng i id2 e2⟩
  · obtain ⟨e1,e2⟩:=hin j j1 j2
    exact ⟨e1,Int.natCast_nonneg _,Int.ofNat_lt.2 e2⟩
 refine ⟨h.R,stL_ok bs _ h.ok,fun i=>?_,fun c=>?_,⟨h.rg.right,h.rg.len,fun i id hm=>(hrg i id hm).1,fun i id hm=>(hrg i id hm).2⟩⟩
 · simp only
   rw [hw.dom i,h.dom i]
   constructor
   · rintro (⟨n,h1,h2⟩|⟨j,j1,j2,j3⟩)
     · exact ⟨n,(stL_dom bs _ n).2 (.inl h1),h2⟩
     · exact ⟨j / s.D.pg,(stL_dom bs _ _).2 (.inr ⟨j,j1,j2,rfl⟩),j3⟩
   · rintro ⟨n,h1,h2⟩
     rcases (stL_dom bs _ n).1 h1 with e|⟨j,j1,j2,j3⟩
     · exact .inl ⟨n,e,h2⟩
     · exact .inr ⟨j,j1,j2,by rw [j3];exact h2⟩
 · show ldB s.D.pg (stL s.D.pg p.L at_.toNat bs) c=flatF s.D.pg (memF s.D.pg C' m') c
   rw [stL_ld hp bs _ h.ok,hw.flat c,h.ld c]
theorem PgRel.regs (h:PgRel s C p) {A:Option Addr} {cap:Nat} {L:List Rg} (h1:RgsOk s.D L) (h2:∀x,findB s.L x=true→findB L x=true):PgRel {s with A:=A,cap:=cap,L:=L} C ⟨L,p.L⟩:=
 ⟨rfl,h.ok,h.dom,h.ld,⟨h1.1,h1.2,fun i id hm=>h2 i (h.rg.has i id hm),h.rg.rng⟩⟩
theorem keepU_iff {a n:Int} {m:Nat}:keepU a n m=true ↔ ¬inU a n (m:Int):=by
 unfold keepU inU
 rw [decide_eq_true_eq]
 omega
theorem PgRel.unmap (h:PgRel s C p) (hD:s.D.Ok) {a n:Int} {A:Option Addr} {cap:Nat} {L:List Rg} (h1:RgsOk s.D L) (h2:∀x,findB s.L x=true→¬inU a n x→findB L x=true) (hw:UmD s C C' m' (inU a n)):
 PgRel {s with A:=A,cap:=cap,L:=L,m:=m',n:=n'} C' ⟨L,p.L.filter fun q=>keepU a n q.1⟩:=by
 have hno:∀i id,m' i=some id→s.m i=some id∧¬inU a n i:=fun i id hm=>⟨hw.sub i id hm,((hw.dom i).1 (by rw [hm];rfl)).2⟩
 refine ⟨rfl,dropL_ok h.ok _,fun i=>?_,fun c=>?_,⟨h1.1,h1.2,fun i id hm=>h2 i (h.rg.has i id (hno i id hm).1) (hno i id hm).2,fun i id hm=>h.rg.rng i id (hno i id hm).1⟩⟩
 · simp only
   rw [hw.dom i,h.dom i]
   constructor
   · rintro ⟨⟨j,j1,rfl⟩,j3⟩
     exact ⟨j,(dropL_dom (keepU a n)).2 ⟨j1,keepU_iff.2 j3⟩,rfl⟩
   · rintro ⟨j,j1,rfl⟩
     obtain ⟨g1,g2⟩:=(dropL_dom (keepU a n)).1 j1
     exact ⟨⟨j,g1,rfl⟩,keepU_iff.1 g2⟩
 · show ldB s.D.pg (p.L.filter fun q=>keepU a n q.1) c=flatF s.D.pg (memF s.D.pg C' m') c
   rw [dropL_ld h.ok (keepU a n) c]
   by_cases e:inU a n ((c / s.D.pg:Nat):Int)
   · rw [if_neg (fun g=>keepU_iff.1 g e),(hw.flat c).2 e]
   · rw [if_pos (keepU_iff.2 e),(hw.flat c).1 e,h.ld c]
theorem PgRel.load (h:PgRel s C p) (a n:Nat):rngF (flatF s.D.pg (s.mem C)) a n=ldN s.D.pg p.L a n:=by
 unfold rngF ldN
 exact List.map_congr_left fun i _=>(h.ld (a+i)).symm
theorem rising_eq:∀{l m:List Int},l.Pairwise (· < ·)→m.Pairwise (· < ·)→(∀x,x∈l ↔ x∈m)→l=m
 |[],[],_,_,_=>rfl
 |[],y::m,_,_,h=>absurd ((h y).2 jM) (by simp)
 |x::l,[],_,_,h=>absurd ((h x).1 jM) (by simp)
 | x ::l,y::m,h1,h2,h=>by
   obtain ⟨a1,a2⟩:=List.pairwise_cons.1 h1
   obtain ⟨b1,b2⟩:=List.pairwise_cons.1 h2
   have e:x=y:=by
    rcases List.mem_cons.1 ((h x).1 jM) with e|e
    · exact e
    · rcases List.mem_cons.1 ((h y).2 jM) with e2|e2
      · exact e2.symm
      · have:=b1 x e
        have:=a1 y e2
        omega
   subst e
   rw [rising_eq a2 b2 fun z=>?_]
   by_cases c:z=x
   · subst c
     exact ⟨fun e=>absurd (a1 z e) (by omega),fun e=>absurd (b1 z e) (by omega)⟩
   · have:=h z
     rw [List.mem_cons,List.mem_cons] at this
     constructor
     · exact fun e=>(this.1 (.inr e)).resolve_left c
     · exact fun e=>(this.2 (.inr e)).resolve_left c
def keysL (L:PgL):List Int:=L.map fun q=>((q.1:Nat):Int)
theorem keysL_up {z:Nat} {L:PgL} (h:PgOk z L):(keysL L).Pairwise (· < ·):=by
 unfold keysL
 rw [List.pairwise_map]
 exact h.1.imp fun e=>by omega
theorem keysL_mem {L:PgL} {i:Int}:i∈keysL L ↔ ∃n,domL L n∧(n:Int)=i:=by
 unfold keysL domL
 rw [List.mem_map]
 constructor
 · rintro ⟨q,hq,rfl⟩
   exact ⟨q.1,⟨q,hq,rfl⟩,rfl⟩
 · rintro ⟨n,⟨q,hq,rfl⟩,rfl⟩
   exact ⟨q,hq,rfl⟩
theorem PgRel.cnt (h:PgRel s C p) {w:World} (hs:SpAt w s.D s.A s.cap s.L s.m s.n):s.n=p.L.length:=by
 have:=cnt_list hs.mp (l:=keysL p.L) ((keysL_up h.ok).imp fun e=>by omega) fun i=>by rw [keysL_mem,h.dom i]
 rw [this]
 simp [keysL]
theorem PgRel.slots (h:PgRel s C p) {l:List (Int×Int)} (hl:SlOf s.m s.n l):l.map (·.1)=keysL p.L:=by
 refine rising_eq (by rw [List.pairwise_map];exact hl.up) (keysL_up h.ok) fun i=>?_
 rw [keysL_mem,←h.dom i,List.mem_map]
 constructor
 · rintro ⟨⟨k,id⟩,hk,rfl⟩
   rw [(hl.mem k id).1 hk];rfl
 · intro e
   cases hm:s.m i with
   |none=>rw [hm] at e;cases e
   |some id=>exact ⟨(i,id),(hl.mem i id).2 hm,rfl⟩
end
structure WD where
 W:Nat
 S:Nat
 d:PD
 D:MaD
 A:Option Addr
 cap:Nat
def WD.rv (o:WD):Value:=.slice o.A o.D.n o.cap
def WD.ro (o:WD) (q:Nat):Prop:=q=o.W∨o.rv.ownBlock=some q
structure WB (w0 w:World) (o:WD) (t:PSt ShS) (C:Cu) (k:Nat) (l:List Spc) (P:List (Option MPr)) (Q:List (Option Nat)):Prop where
 lw:LW o.S w0 w o.d t C k l
 ma:MaAt w o.D P
 row:OwE psE 0 w o.rv Q
 lQ:Q.length=o.D.n
 cc:∀i,i<9→w.cell? ⟨o.W,i,none⟩=some (.int .i64 (o.D.cf i))
 c9:w.cell? ⟨o.W,9,none⟩=some (.pointer (some ⟨o.d.Q,0,none⟩))
 c10:w.cell? ⟨o.W,10,none⟩=some (.pointer (some ⟨o.D.X,0,none⟩))
 c11:w.cell? ⟨o.W,11,none⟩=some o.rv
 neW:o.rv.ownBlock≠some o.W
 s1:∀q,maO o.D P q→¬swO o.d t l q∧¬o.ro q
 s2:∀q,o.ro q→¬swO o.d t l q
 new:∀q,maO o.D P q∨o.ro q→w0.heap.size≤q
section
variable {w0 w w' w1 w2:World} {o:WD} {t t':PSt ShS} {C C':Cu} {k k':Nat} {l l':List Spc} {P P':List (Option MPr)} {Q:List (Option Nat)} {T:Nat→Prop}
theorem WB.ltW (h:WB w0 w o t C k l P Q):o.W<w.heap.size:=lt_of_cell h.c9
theorem WB.ltR (h:WB w0 w o t C k l P Q) {q:Nat} (hq:o.ro q):q<w.heap.size:=by
 rcases hq with rfl|e
 · exact h.ltW
 · exact (h.row.lt e).2
theorem WB.bel (h:WB w0 w o t C k l P Q):Below w0.heap.size w0 w:=h.lw.bel
def wO (o:WD) (t:PSt ShS) (l:List Spc) (P:List (Option MPr)) (q:Nat):Prop:=swO o.d t l q∨maO o.D P q∨o.ro q
theorem WB.lt (h:WB w0 w o t C k l P Q) {q:Nat} (hq:wO o t l P q):q<w.heap.size:=by
 rcases hq with e|e|e
 · exact h.lw.sw.lt e
 · exact h.ma.lt e
 · exact h.ltR e
theorem WB.up (h:WB w0 w o t C k l P Q) (hb:Below w.heap.size w w'):WB w0 w' o t C k l P Q:=by
 have ho:=Off.of_below (S:=fun _=>False) hb
 have lW:=h.ltW
 exact ⟨h.lw.up hb,h.ma.up hb,h.row.up hb,h.lQ,fun i hi=>(ho.cell (p:=⟨o.W,i,none⟩) lW id).trans (h.cc i hi),(ho.cell (p:=⟨o.W,9,none⟩) lW id).trans h.c9,(ho.cell (p:=⟨o.W,10,none⟩) lW id).trans h.c10,(ho.cell (p:=⟨o.W,11,none⟩) lW id).trans h.c11,h.neW,h.s1,h.s2,h.new⟩
theorem WB.less (h:WB w0 w o t C k l P Q) (hk:k'≤k):WB w0 w o t C k' l P Q:=⟨h.lw.less hk,h.ma,h.row,h.lQ,h.cc,h.c9,h.c10,h.c11,h.neW,h.s1,h.s2,h.new⟩
theorem WB.perm (h:WB w0 w o t C k l P Q) (hp:l.Perm l'):WB w0 w o t C k l' P Q:=
 ⟨h.lw.perm hp,h.ma,h.row,h.lQ,h.cc,h.c9,h.c10,h.c11,h.neW,fun q hq=>⟨fun e=>(h.s1 q hq).1 ((swO_perm hp).2 e),(h.s1 q hq).2⟩,fun q hq e=>h.s2 q hq ((swO_perm hp).2 e),h.new⟩
theorem WB.sw (h:WB w0 w o t C k l P Q) (hl:LW o.S w0 w' o.d t' C' k' l') (hn:SwN shP w w' o.d t t' l l'):WB w0 w' o t' C' k' l' P Q:=by
 have lW:=h.ltW
 have nW:=h.s2 o.W (.inl rfl)
 have keep:∀q,q<w.heap.size→¬swO o.d t l q→¬swO o.d t' l' q:=fun q h1 h2=>(hn.keep h1 h2).2
 exact ⟨hl,h.ma.off hn.off fun q hq=>(h.s1 q hq).1,h.row.off hn.off fun q e=>h.s2 q (.inr e),h.lQ,fun i hi=>(hn.off.cell (p:=⟨o.W,i,none⟩) lW nW).trans (h.cc i hi),(hn.off.cell (p:=⟨o.W,9,none⟩) lW nW).trans h.c9,(hn.off.cell (p:=⟨o.W,10,none⟩) lW nW).trans h.c10,(hn.off.cell (p:=⟨o.W,11,none⟩) lW nW).trans h.c11,h.neW,
  fun q hq=>⟨keep q (h.ma.lt hq) (h.s1 q hq).1,(h.s1 q hq).2⟩,fun q hq=>keep q (h.ltR hq) (h.s2 q hq),h.new⟩
theorem WB.mach (h:WB w0 w o t C k l P Q) (hm:MaAt w' o.D P') (hn:MaN w w' o.D P P'):WB w0 w' o t C k l P' Q:=by
 have lW:=h.ltW
 have hz:=h.bel.size
 have nm:∀q,o.ro q→¬maO o.D P q:=fun q hq e=>(h.s1 q e).2 hq
 have nW:=nm o.W (.inl rfl)
 refine ⟨h.lw.off hn.off (fun q hq=>(h.s1 q hq).1) (fun q hq=>h.new q (.inl hq)),hm,h.row.off hn.off fun q e=>nm q (.inr e),h.lQ,fun i hi=>(hn.off.cell (p:=⟨o.W,i,none⟩) lW nW).trans (h.cc i hi),(hn.off.cell (p:=⟨o.W,9,none⟩) lW nW).trans h.c9,(hn.off.cell (p:=⟨o.W,10,none⟩) lW nW).trans h.c10,(hn.off.cell (p:=⟨o.W,11,none⟩) lW nW).trans h.c11,h.neW,fun q hq=>?_,h.s2,fun q hq=>?_⟩
 · rcases hn.own q hq with e|e
   · exact h.s1 q e
   · exact ⟨fun e2=>by have:=h.lw.sw.lt e2;omega,fun e2=>by have:=h.ltR e2;omega⟩
 · rcases hq with hq|hq
   · rcases hn.own q hq with e|e
     · exact h.new q (.inl e)
     · omega
   · exact h.new q (.inr hq)
theorem WB.setQ (h:WB w0 w o t C k l P Q) {g:Nat} (hg:o.A=some ⟨g,0,none⟩) (hn:0<o.D.n) (j:Nat) (x:Option Nat):WB w0 (w.setCell ⟨g,j,none⟩ (.pointer (x.map fun g=>⟨g,0,none⟩))) o t C k l P (Q.set j x):=by
 have hown:o.rv.ownBlock=some g:=by unfold WD.rv;rw [hg];rfl
 have hbo:=h.row
 unfold WD.rv at hbo
 rw [hg] at hbo
 obtain ⟨h1,h2⟩:=OwE.set1 hbo rfl j x (u:=.pointer (x.map fun g=>⟨g,0,none⟩)) rfl
 have lW:=h.ltW
 have nW:¬o.W=g:=fun e=>h.neW (by rw [hown,e])
 have nm:∀q,maO o.D P q→¬q=g:=fun q hq e=>(h.s1 q hq).2 (.inr (by rw [e];exact hown))
 have ns:∀q,q=g→¬swO o.d t l q:=fun q e=>h.s2 q (.inr (by rw [e];exact hown))
 refine ⟨h.lw.off h2 ns (fun q e=>h.new q (.inr (.inr (by rw [e];exact hown)))),h.ma.off h2 nm,?_,by rw [List.length_set];exact h.lQ,fun i hi=>(h2.cell (p:=⟨o.W,i,none⟩) lW nW).trans (h.cc i hi),(h2.cell (p:=⟨o.W,9,none⟩) lW nW).trans h.c9,(h2.cell (p:=⟨o.W,10,none⟩) lW nW).trans h.c10,(h2.cell (p:=⟨o.W,11,none⟩) lW nW).trans h.c11,h.neW,h.s1,h.s2,h.new⟩
 unfold WD.rv
 rw [hg]
 exact h1
end
def lS (sp:List (Option Spc)):List Spc:=sp.filterMap id
def qS (sp:List (Option Spc)):List (Option Nat):=sp.map (Option.map fun s=>s.D.X)
section
variable {sp:List (Option Spc)} {s s':Spc} {k:Nat}
theorem lS_mem:s∈lS sp ↔ some s∈sp:=by
 unfold lS
 rw [List.mem_filterMap]
 constructor
 · rintro ⟨x,hx,e⟩
   have e':x=some s:=e
   rw [←e'];exact hx
 · intro h
   exact ⟨some s,h,rfl⟩
theorem lS_out:∀{sp:List (Option Spc)} {k:Nat},sp[k]? =some (some s)→(lS sp).Perm (s::lS (sp.set k none))
 |[],k,h=>by simp at h
 | x::sp,0,h=>by
   simp at h
   subst h
   exact List.Perm.refl _
 | x::sp,k+1,h=>by
   have ih:=lS_out (sp:=sp) (k:=k) (by simpa using h)
   cases x with
   |none=>exact ih
   |some y=>exact (ih.cons y).trans (List.Perm.swap _ _ _)
theorem lS_in:∀{sp:List (Option Spc)} {k:Nat},k<sp.length→(lS (sp.set k (some s))).Perm (s::lS (sp.set k none))
 |[],k,h=>by simp at h
 |x::sp,0,h=>List.Perm.refl _
 | x::sp,k+1,h=>by
   have ih:=lS_in (sp:=sp) (k:=k) (by simpa using h)
   cases x with
   |none=>exact ih
   |some y=>exact (ih.cons y).trans (List.Perm.swap _ _ _)
theorem lS_none (h:sp[k]? =some none):sp.set k none=sp:=by
 apply List.ext_getElem?
 intro i
 rw [List.getElem?_set]
 split
 · rename_i e
   subst e
   rw [h]
   split
   · rfl
   · rename_i h2
     rw [List.getElem?_eq_none (by omega)] at h
     cases h
 · rfl
theorem qS_at (h:sp[k]? =some (some s)):(qS sp)[k]? =some (some s.D.X):=by unfold qS;rw [List.getElem?_map,h];rfl
theorem qS_none (h:sp[k]? =some none):(qS sp)[k]? =some none:=by unfold qS;rw [List.getElem?_map,h];rfl
theorem qS_set (x:Option Spc):qS (sp.set k x)=(qS sp).set k (x.map fun s=>s.D.X):=by unfold qS;rw [List.map_set]
theorem qS_same (h:sp[k]? =some (some s)) (e:s'.D.X=s.D.X):qS (sp.set k (some s'))=qS sp:=by
 rw [qS_set]
 apply List.ext_getElem?
 intro i
 rw [List.getElem?_set]
 split
 · rename_i e2
   subst e2
   rw [qS_at h]
   split
   · rw [Option.map_some,e]
   · rename_i h2
     rw [show (qS sp).length=sp.length by simp [qS]] at h2
     rw [List.getElem?_eq_none (by omega)] at h
     cases h
 · rfl
end
def ShOk (D:MaD) (s:Spc):Prop:=s.D.cf=D.cf∧s.D.pg=D.z∧s.D.rg=D.rg∧s.D.ps=D.ps
structure WR (D:MaD) (C:Cu) (sp:List (Option Spc)) (P:MaP):Prop where
 len:sp.length=P.length
 gone:∀i:Nat,P[i]? =some none→sp[i]? =some none
 held:∀(i:Nat) (p:PrP),P[i]? =some (some p)→∃s,sp[i]? =some (some s)∧PgRel s C p∧ShOk D s
structure WS (w0 w:World) (o:WD) (t:PSt ShS) (C:Cu) (k U:Nat) (sp:List (Option Spc)) (P:List (Option MPr)):Prop where
 b:WB w0 w o t C k (lS sp) P (qS sp)
 r:WR o.D C sp (plP P)
 few:∀p,some p∈plP P→p.L.length≤U
section
variable {D:MaD} {C C':Cu} {sp:List (Option Spc)} {P:MaP} {s s':Spc} {p p':PrP} {k j:Nat}
theorem WR.at_ (h:WR D C sp P) (hs:sp[k]? =some (some s)):∃p,P[k]? =some (some p)∧PgRel s C p∧ShOk D s:=by
 have hk:=(jS.1 hs).1
 rw [h.len] at hk
 cases hp:P[k] with
 | none=>
   have:=h.gone k (by rw [jE hk,hp])
   rw [hs] at this;cases this
 | some p=>
   have hp':P[k]? =some (some p):=by rw [jE hk,hp]
   obtain ⟨s2,h1,h2,h3⟩:=h.held k p hp'
   rw [hs] at h1
   cases h1
   exact ⟨p,hp',h2,h3⟩
theorem WR.put (h:WR D C sp P) (hk:k<sp.length) (hr:PgRel s' C' p') (hd:ShOk D s') (ho:∀x,x∈lS (sp.set k none)→x.mem C'=x.mem C):WR D C' (sp.set k (some s')) (P.set k (some p')):=by
 have hkP:k<P.length:=by rw [←h.len];exact hk
 refine ⟨by rw [List.length_set,List.length_set];exact h.len,fun i hi=>?_,fun i p hp=>?_⟩
 · rw [List.getElem?_set] at hi ⊢
   by_cases e:k=i
   · rw [if_pos e,if_pos hkP] at hi;cases hi
   · rw [if_neg e] at hi ⊢
     exact h.gone i hi
 · rw [List.getElem?_set] at hp ⊢
   by_cases e:k=i
   · rw [if_pos e,if_pos hkP] at hp
     cases hp
     rw [if_pos e,if_pos hk]
     exact ⟨s',rfl,hr,hd⟩
   · rw [if_neg e] at hp ⊢
     obtain ⟨s2,h1,h2,h3⟩:=h.held i p hp
     refine ⟨s2,h1,h2.mem (ho s2 (lS_mem.2 (jG (i:=i) ?_))),h3⟩
     rw [List.getElem?_set,if_neg e]
     exact h1
theorem WR.del (h:WR D C sp P) (ho:∀x,x∈lS (sp.set k none)→x.mem C'=x.mem C):WR D C' (sp.set k none) (P.set k none):=by
 refine ⟨by rw [List.length_set,List.length_set];exact h.len,fun i hi=>?_,fun i p hp=>?_⟩
 · rw [List.getElem?_set] at hi ⊢
   by_cases e:k=i
   · rw [if_pos e] at hi ⊢
     rw [h.len]
     split at hi
     · rename_i e2;rw [if_pos e2]
     · cases hi
   · rw [if_neg e] at hi ⊢
     exact h.gone i hi
 · rw [List.getElem?_set] at hp
   by_cases e:k=i
   · rw [if_pos e] at hp
     split at hp<;>cases hp
   · rw [if_neg e] at hp
     obtain ⟨s2,h1,h2,h3⟩:=h.held i p hp
     have h1':(sp.set k none)[i]? =some (some s2):=by rw [List.getElem?_set,if_neg e];exact h1
     exact ⟨s2,h1',h2.mem (ho s2 (lS_mem.2 (jG h1'))),h3⟩
end
end Go.Proofs.YtlhfjaagkgengaaGreat
