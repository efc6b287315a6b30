/- Regions as a function of the pages; the program's and the document's are the same. -/
import Derived.Test.YtlhfjaagkgengaaGreatPC15
namespace Go.Proofs.YtlhfjaagkgengaaGreat
open Go.RowKit
set_option linter.unusedVariables false
set_option linter.unusedSimpArgs false
def atR:List Rg→Int→Option Int
 |[],_=>none
 |r::L,x=>if r.lo≤x∧x<r.hi then some r.pr else atR L x
def SrtR:Int→List Rg→Prop
 |_,[]=>True
 |b,r::L=>b≤r.lo∧r.lo<r.hi∧SrtR r.hi L
def CanR:Int→Option Int→List Rg→Prop
 |_,_,[]=>True
 |b,p,r::L=>b≤r.lo∧r.lo<r.hi∧¬(r.lo=b∧some r.pr=p)∧CanR r.hi (some r.pr) L
theorem CanR.srt:∀{L:List Rg} {b:Int} {p:Option Int},CanR b p L→SrtR b L
 |[],_,_,_=>trivial
 |_::_,_,_,h=>⟨h.1,h.2.1,CanR.srt h.2.2.2⟩
theorem SrtR.less:∀{L:List Rg} {b c:Int},SrtR b L→c≤b→SrtR c L
 |[],_,_,_,_=>trivial
 |_::_,_,_,h,hc=>⟨by have:=h.1;omega,h.2⟩
theorem SrtR.before:∀{L:List Rg} {b x:Int},SrtR b L→x<b→atR L x=none
 |[],_,_,_,_=>rfl
 | r::L,b,x,h,hx=>by
   obtain ⟨h1,h2,h3⟩:=h
   unfold atR
   rw [if_neg (by omega)]
   exact SrtR.before h3 (by omega)
theorem SrtR.mem:∀{L:List Rg} {b:Int} {r:Rg},SrtR b L→r∈L→b≤r.lo∧r.lo<r.hi
 |[],_,_,_,h=>by cases h
 | y ::L,b,r,h,hr=>by
   rcases List.mem_cons.1 hr with rfl|hr
   · exact ⟨h.1,h.2.1⟩
   · have:=SrtR.mem h.2.2 hr
     have:=h.1
     have:=h.2.1
     omega
theorem canR_unique:∀{L M:List Rg} {b:Int} {p:Option Int},CanR b p L→CanR b p M→(∀x,b≤x→atR L x=atR M x)→L=M
 |[],[],_,_,_,_,_=>rfl
 | [],s::M,b,p,_,h2,h=>by
   have:=h s.lo h2.1
   have h3:=h2.2.1
   unfold atR at this
   rw [if_pos ⟨Int.le_refl _,h3⟩] at this
   cases this
 | r::L,[],b,p,h1,_,h=>by
   have:=h r.lo h1.1
   have h3:=h1.2.1
   unfold atR at this
   rw [if_pos ⟨Int.le_refl _,h3⟩] at this
   cases this
 | r ::L,s::M,b,p,h1,h2,h=>by
   obtain ⟨a1,a2,a3,a4⟩:=h1
   obtain ⟨b1,b2,b3,b4⟩:=h2
   have hlo:r.lo=s.lo:=by
    rcases Int.lt_trichotomy r.lo s.lo with e|e|e
    · have:=h r.lo a1
      unfold atR at this
      rw [if_pos ⟨Int.le_refl _,a2⟩,if_neg (by omega),b4.srt.before (by omega)] at this
      cases this
    · exact e
    · have:=h s.lo b1
      unfold atR at this
      rw [if_neg (c:=r.lo≤s.lo∧s.lo<r.hi) (by omega),if_pos ⟨Int.le_refl _,b2⟩,a4.srt.before (by omega)] at this
      cases this
   have hpr:r.pr=s.pr:=by
    have:=h r.lo a1
    unfold atR at this
    rw [if_pos ⟨Int.le_refl _,a2⟩,if_pos (by omega)] at this
    exact Option.some.inj this
   have key:∀{L:List Rg} {c:Int} {q:Int},CanR c (some q) L→atR L c≠some q:=by
    intro L c q hc he
    cases L with
    |nil=>cases he
    | cons t L=>
      obtain ⟨c1,c2,c3,c4⟩:=hc
      unfold atR at he
      by_cases e:t.lo=c
      · rw [if_pos (by omega)] at he
        exact c3 ⟨e,he⟩
      · rw [if_neg (by omega),c4.srt.before (by omega)] at he
        cases he
   have hhi:r.hi=s.hi:=by
    rcases Int.lt_trichotomy r.hi s.hi with e|e|e
    · have:=h r.hi (by omega)
      unfold atR at this
      rw [if_neg (by omega),if_pos (by omega),←hpr] at this
      exact absurd this (key a4)
    · exact e
    · have:=h s.hi (by omega)
      unfold atR at this
      rw [if_neg (c:=s.lo≤s.hi∧s.hi<s.hi) (by omega),if_pos (by omega),hpr] at this
      exact absurd this.symm (key b4)
   have hrs:r=s:=by
    cases r;cases s
    simp only at hlo hhi hpr
    subst hlo hhi hpr
    rfl
   subst hrs
   congr 1
   refine canR_unique a4 b4 fun x hx=>?_
   have:=h x (by omega)
   unfold atR at this
   rw [if_neg (by omega),if_neg (by omega)] at this
   exact this
def endR (b:Int) (p:Option Int) (L:List Rg):Int×Option Int:=match L.getLast? with
 |none=>(b,p)
 |some r=>(r.hi,some r.pr)
theorem endR_cons (b:Int) (p:Option Int) (r:Rg) (L:List Rg):endR b p (r::L)=endR r.hi (some r.pr) L:=by
 unfold endR
 cases L with
 |nil=>rfl
 | cons s L=>
   rw [List.getLast?_cons_cons]
   cases h:(s::L).getLast? with
   |none=>simp at h
   |some y=>rfl
theorem endR_snoc (b:Int) (p:Option Int) (r:Rg) (L:List Rg):endR b p (L ++ [r])=(r.hi,some r.pr):=by
 unfold endR
 simp
theorem canR_app:∀(L M:List Rg) (b:Int) (p:Option Int),CanR b p (L ++ M) ↔ CanR b p L∧CanR (endR b p L).1 (endR b p L).2 M
 |[],M,b,p=>by simp [CanR,endR]
 | r::L,M,b,p=>by
   rw [List.cons_append,CanR,CanR,canR_app L M,endR_cons]
   constructor
   · rintro ⟨h1,h2,h3,h4,h5⟩;exact ⟨⟨h1,h2,h3,h4⟩,h5⟩
   · rintro ⟨⟨h1,h2,h3,h4⟩,h5⟩;exact ⟨h1,h2,h3,h4,h5⟩
theorem atR_app (L M:List Rg) (x:Int):atR (L ++ M) x=(atR L x).or (atR M x):=by
 induction L with
 |nil=>rfl
 | cons r L ih=>
   rw [List.cons_append,atR,atR]
   split
   · rfl
   · exact ih
theorem jn_can {b:Int} {p:Option Int} {out:List Rg} {r:Rg} (hn:p=none) (h:CanR b p out) (h1:(endR b p out).1≤r.lo) (h2:r.lo<r.hi):
 CanR b p (jn out r)∧(endR b p (jn out r)).1=r.hi∧∀x,atR (jn out r) x=(atR out x).or (atR [r] x):=by
 rcases List.eq_nil_or_concat out with rfl|⟨O,y,rfl⟩
 · rw [jn_nil]
   refine ⟨⟨h1,h2,(by rw [hn];rintro ⟨_,e⟩;cases e),trivial⟩,rfl,fun x=>rfl⟩
 · rw [List.concat_eq_append] at *
   rw [endR_snoc] at h1
   rw [canR_app] at h
   obtain ⟨g1,g2,g3,g4,_⟩:=h
   by_cases e:y.hi=r.lo∧y.pr=r.pr
   · rw [jn_yes _ _ _ e]
     refine ⟨(canR_app _ _ _ _).2 ⟨g1,g2,by simp only at *;omega,g4,trivial⟩,by rw [endR_snoc],fun x=>?_⟩
     rw [atR_app,atR_app]
     cases atR O x with
     |some v=>rfl
     | none=>
       simp only [Option.none_or,atR]
       simp only at h1
       by_cases c1:y.lo≤x∧x<y.hi
       · rw [if_pos c1,if_pos (by omega)];rfl
       · rw [if_neg c1]
         by_cases c2:r.lo≤x∧x<r.hi
         · rw [if_pos c2,if_pos (by omega),e.2];rfl
         · rw [if_neg c2,if_neg (by omega)];rfl
   · rw [jn_no _ _ _ e]
     refine ⟨(canR_app _ _ _ _).2 ⟨(canR_app _ _ _ _).2 ⟨g1,g2,g3,g4,trivial⟩,?_⟩,by rw [endR_snoc],fun x=>atR_app _ _ _⟩
     rw [endR_snoc]
     refine ⟨h1,h2,?_,trivial⟩
     rintro ⟨e1,e2⟩
     exact e ⟨e1.symm,(Option.some.inj e2).symm⟩
theorem joinF_go:∀(M:List Rg) (b:Int) (out:List Rg),CanR b none out→SrtR (endR b none out).1 M→CanR b none (M.foldl jn out)∧∀x,atR (M.foldl jn out) x=(atR out x).or (atR M x)
 |[],b,out,h,_=>⟨h,fun x=>by simp [atR]⟩
 | r::M,b,out,h,hs=>by
   obtain ⟨h1,h2,h3⟩:=hs
   obtain ⟨g1,g2,g3⟩:=jn_can rfl h h1 h2
   obtain ⟨k1,k2⟩:=joinF_go M b (jn out r) g1 (by rw [g2];exact h3)
   refine ⟨k1,fun x=>?_⟩
   rw [List.foldl_cons,k2 x,g3 x,Option.or_assoc]
   congr 1
   rw [←atR_app]
   rfl
theorem joinF_can {b:Int} {M:List Rg} (h:SrtR b M):CanR b none (joinF M)∧∀x,atR (joinF M) x=atR M x:=by
 obtain ⟨h1,h2⟩:=joinF_go M b [] trivial h
 exact ⟨h1,fun x=>by rw [show joinF M=M.foldl jn [] from rfl,h2 x];rfl⟩
theorem SrtR.at_iff:∀{L:List Rg} {b:Int},SrtR b L→∀x p,atR L x=some p ↔ ∃r∈L,r.lo≤x∧x<r.hi∧r.pr=p
 |[],_,_,x,p=>by simp [atR]
 | r ::L,b,h,x,p=>by
   obtain ⟨h1,h2,h3⟩:=h
   unfold atR
   split
   · rename_i c
     constructor
     · intro e;exact ⟨r,jM,c.1,c.2,Option.some.inj e⟩
     · rintro ⟨s,hs,e1,e2,e3⟩
       rcases List.mem_cons.1 hs with rfl|hs
       · rw [e3]
       · have:=SrtR.mem h3 hs
         omega
   · rename_i c
     rw [SrtR.at_iff h3 x p]
     constructor
     · rintro ⟨s,hs,e⟩;exact ⟨s,List.mem_cons_of_mem _ hs,e⟩
     · rintro ⟨s,hs,e1,e2,e3⟩
       rcases List.mem_cons.1 hs with rfl|hs
       · exact absurd ⟨e1,e2⟩ c
       · exact ⟨s,hs,e1,e2,e3⟩
def DisR (x y:Rg):Prop:=x.hi≤y.lo∨y.hi≤x.lo
theorem SrtR.pair:∀{L:List Rg} {b:Int},SrtR b L→L.Pairwise (fun x y=>x.hi≤y.lo)
 |[],_,_=>List.Pairwise.nil
 |r::L,b,h=>List.Pairwise.cons (fun s hs=>(SrtR.mem h.2.2 hs).1) (SrtR.pair h.2.2)
theorem srtR_of:∀{L:List Rg} {b:Int},L.Pairwise (fun x y=>x.hi≤y.lo)→(∀r∈L,b≤r.lo∧r.lo<r.hi)→SrtR b L
 |[],_,_,_=>trivial
 | r::L,b,h,hm=>by
   obtain ⟨h1,h2⟩:=List.pairwise_cons.1 h
   exact ⟨(hm r jM).1,(hm r jM).2,srtR_of h2 fun s hs=>⟨h1 s hs,(hm s (jP hs)).2⟩⟩
theorem sortG_srt {L:List Rg} {b:Int} (hd:L.Pairwise DisR) (hm:∀r∈L,b≤r.lo∧r.lo<r.hi):SrtR b (sortG L)∧∀x p,atR (sortG L) x=some p ↔ ∃r∈L,r.lo≤x∧x<r.hi∧r.pr=p:=by
 have hp:(sortG L).Perm L:=List.mergeSort_perm L leG
 have hs:(sortG L).Pairwise (fun x y=>leG x y=true):=by
  refine List.pairwise_mergeSort (fun a b c h1 h2=>?_) (fun a b=>?_) L
  · unfold leG at *;have:=of_decide_eq_true h1;have:=of_decide_eq_true h2;exact decide_eq_true (by omega)
  · unfold leG
    by_cases h:a.lo≤b.lo
    · rw [decide_eq_true h];rfl
    · rw [decide_eq_true (show b.lo≤a.lo by omega)];simp
 have hd2:(sortG L).Pairwise DisR:=hp.symm.pairwise hd fun {x y} h=>by unfold DisR at *;omega
 have hsr:SrtR b (sortG L):=by
  refine srtR_of ?_ fun r hr=>hm r (hp.mem_iff.1 hr)
  have:=hs.and hd2
  refine List.Pairwise.imp_of_mem ?_ this
  rintro x y hx hy ⟨h1,h2⟩
  have h3:=(hm x (hp.mem_iff.1 hx)).2
  have h4:=(hm y (hp.mem_iff.1 hy)).2
  have h5:x.lo≤y.lo:=of_decide_eq_true h1
  unfold DisR at h2
  omega
 refine ⟨hsr,fun x p=>?_⟩
 rw [hsr.at_iff]
 constructor
 · rintro ⟨r,hr,e⟩;exact ⟨r,hp.mem_iff.1 hr,e⟩
 · rintro ⟨r,hr,e⟩;exact ⟨r,hp.mem_iff.2 hr,e⟩
theorem cutR_srt:∀{L:List Rg} {b lo hi:Int},lo<hi→SrtR b L→SrtR b (L.flatMap (cut1 lo hi))∧∀x,atR (L.flatMap (cut1 lo hi)) x=if lo≤x∧x<hi then none else atR L x
 |[],_,lo,hi,_,_=>⟨trivial,fun x=>by simp [atR]⟩
 | r ::L,b,lo,hi,hlt,h=>by
   obtain ⟨h1,h2,h3⟩:=h
   obtain ⟨g1,g2⟩:=cutR_srt hlt h3
   rw [List.flatMap_cons]
   have hat:∀x,atR (cut1 lo hi r) x=if lo≤x∧x<hi then none else if r.lo≤x∧x<r.hi then some r.pr else none:=by
    intro x
    unfold cut1 minI maxI
    rw [atR_app]
    repeat' split
    all_goals first|(simp only [atR,Option.none_or,Option.or_none];repeat' split)|skip
    all_goals first|rfl|omega|(simp;done)|(exfalso;omega)
   refine ⟨?_,fun x=>?_⟩
   · unfold cut1 minI maxI
     repeat' split
     all_goals simp only [List.nil_append,List.append_nil,List.cons_append,SrtR]
     all_goals first
      |exact g1.less (by omega)
      |exact ⟨by omega,by omega,g1.less (by omega)⟩
      |exact ⟨by omega,by omega,by omega,by omega,g1.less (by omega)⟩
   · rw [atR_app,hat,g2,atR]
     repeat' split
     all_goals first|rfl|omega|(exfalso;omega)
def segsR (f:Int→Int):List Int→List Rg
 |a::b::l=>if f a= -1 then segsR f (b::l) else ⟨a,b,f a⟩::segsR f (b::l)
 |_=>[]
def RisR:List Int→Prop
 |a::b::l=>a<b∧RisR (b::l)
 |_=>True
theorem segsR_srt (f:Int→Int):∀(l:List Int) (a:Int),RisR (a::l)→SrtR a (segsR f (a::l))
 |[],_,_=>trivial
 | b::l,a,h=>by
   unfold segsR
   have ih:=segsR_srt f l b h.2
   split
   · exact ih.less (by have:=h.1;omega)
   · exact ⟨Int.le_refl _,h.1,ih⟩
def ConR (f:Int→Int):List Int→Prop
 |a::b::l=>(∀x,a≤x→x<b→f x=f a)∧ConR f (b::l)
 |_=>True
def wayO (p:Int):Option Int:=if p= -1 then none else some p
theorem segsR_at (f:Int→Int):∀(l:List Int) (a:Int),RisR (a::l)→ConR f (a::l)→∀x,a≤x→x<(a::l).getLast (by simp)→atR (segsR f (a::l)) x=wayO (f x)
 |[],a,_,_,x,h1,h2=>by simp at h2;omega
 | b ::l,a,h,hc,x,h1,h2=>by
   have hs:=segsR_srt f l b h.2
   have hlast:(a::b::l).getLast (by simp)=(b::l).getLast (by simp):=List.getLast_cons (by simp)
   rw [hlast] at h2
   have hab:=h.1
   by_cases hx:x<b
   · have e1:atR (segsR f (b::l)) x=none:=hs.before hx
     unfold segsR
     split
     · rename_i e
       rw [e1,hc.1 x h1 hx,e];rfl
     · rename_i e
       unfold atR
       rw [if_pos ⟨h1,hx⟩]
       unfold wayO
       rw [hc.1 x h1 hx,if_neg e]
   · have e2:atR (segsR f (a::b::l)) x=atR (segsR f (b::l)) x:=by
      conv=>lhs;unfold segsR
      split
      · rfl
      · unfold atR
        rw [if_neg (by simp only;omega)]
        cases segsR f (b::l)<;>rfl
     rw [e2]
     exact segsR_at f l b h.2 hc.2 x (by omega) h2
theorem segsR_out (f:Int→Int):∀(l:List Int) (a:Int),RisR (a::l)→∀x,(a::l).getLast (by simp)≤x→atR (segsR f (a::l)) x=none
 |[],a,_,x,_=>rfl
 | b ::l,a,h,x,h2=>by
   have hlast:(a::b::l).getLast (by simp)=(b::l).getLast (by simp):=List.getLast_cons (by simp)
   rw [hlast] at h2
   have ih:=segsR_out f l b h.2 x h2
   have hge:∀(l:List Int) (b:Int),RisR (b::l)→b≤(b::l).getLast (by simp):=by
    intro l
    induction l with
    |nil=>intro b _;simp
    | cons c l ih=>
      intro b h
      rw [List.getLast_cons (by simp)]
      have:=ih c h.2
      have:=h.1
      omega
   have:=hge l b h.2
   unfold segsR
   split
   · exact ih
   · unfold atR
     rw [if_neg (by simp only;omega)]
     exact ih
def insC:List Int→Int→List Int
 |[],y=>[y]
 |c::l,y=>if c<y then c::insC l y else if c=y then c::l else y::c::l
theorem insC_mem (y z:Int):∀(l:List Int),z∈insC l y ↔ z=y∨z∈l
 |[]=>by simp [insC]
 | c ::l=>by
   unfold insC
   split
   · rw [List.mem_cons,insC_mem y z l,List.mem_cons]
     constructor
     · rintro (h|h|h)<;>simp [h]
     · rintro (h|h|h)<;>simp [h]
   · split
     · rename_i e
       subst e
       simp
     · simp
theorem insC_ris (y:Int):∀(l:List Int),RisR l→RisR (insC l y)
 |[],_=>trivial
 | [c],_=>by
   unfold insC
   split
   · exact ⟨by assumption,trivial⟩
   · split
     · trivial
     · exact ⟨by omega,trivial⟩
 | c ::d::l,h=>by
   have ih:=insC_ris y (d::l) h.2
   unfold insC
   split
   · rename_i hcy
     unfold insC at ih ⊢
     split
     · rename_i h1;rw [if_pos h1] at ih;exact ⟨h.1,ih⟩
     · rename_i h1
       rw [if_neg h1] at ih
       split
       · rename_i h2;rw [if_pos h2] at ih;exact ⟨h.1,ih⟩
       · rename_i h2;rw [if_neg h2] at ih;exact ⟨hcy,ih⟩
   · split
     · exact h
     · exact ⟨by omega,h⟩
def endsR (L:List Rg):List Int:=L.flatMap fun r=>[r.lo,r.hi]
def cutsF (L:List Rg) (more:List Int):List Int:=(more ++ endsR L).foldl insC []
theorem fold_ins:∀(l:List Int) (out:List Int),RisR out→RisR (l.foldl insC out)∧∀z,z∈l.foldl insC out ↔ z∈l∨z∈out
 |[],out,h=>⟨h,fun z=>by simp⟩
 | y::l,out,h=>by
   obtain ⟨h1,h2⟩:=fold_ins l (insC out y) (insC_ris y out h)
   refine ⟨h1,fun z=>?_⟩
   rw [List.foldl_cons,h2 z,insC_mem,List.mem_cons]
   constructor
   · rintro (h|h|h)<;>simp [h]
   · rintro ((h|h)|h)<;>simp [h]
theorem cutsF_spec (L:List Rg) (more:List Int):RisR (cutsF L more)∧∀z,z∈cutsF L more ↔ z∈more∨∃r∈L,z=r.lo∨z=r.hi:=by
 obtain ⟨h1,h2⟩:=fold_ins (more ++ endsR L) [] trivial
 refine ⟨h1,fun z=>?_⟩
 unfold cutsF endsR at *
 rw [h2 z]
 simp
def protI (L:List Rg) (x:Int):Int:=(atR L x).getD (-1)
theorem atR_same (L:List Rg) {a x:Int} (hax:a≤x) (h:∀r∈L,¬(a<r.lo∧r.lo≤x)∧¬(a<r.hi∧r.hi≤x)):atR L x=atR L a:=by
 induction L with
 |nil=>rfl
 | cons r L ih=>
   have h1:=h r jM
   have h2:=ih fun s hs=>h s (jP hs)
   unfold atR
   rw [h2]
   by_cases c:r.lo≤a∧a<r.hi
   · rw [if_pos c,if_pos (by omega)]
   · rw [if_neg c,if_neg (by omega)]
def wayF (L:List Rg) (lo hi how:Int) (y:Int):Int:=if lo≤y∧y<hi then how else protI L y
theorem ris_con {f:Int→Int}:∀(l:List Int),RisR l→(∀a x,a≤x→(∀c∈l,¬(a<c∧c≤x))→f x=f a)→ConR f l
 |[],_,_=>trivial
 |[_],_,_=>trivial
 | a :: b :: l,h,hf=>by
   have hbig:∀(l:List Int) (b:Int),RisR (b::l)→∀c∈b::l,b≤c:=by
    intro l
    induction l with
    |nil=>intro b _ c hc;simp at hc;omega
    | cons d l ih=>
      intro b h c hc
      rcases List.mem_cons.1 hc with rfl|hc
      · omega
      · have:=ih d h.2 c hc
        have:=h.1
        omega
   have main :∀(l:List Int) (pre:List Int),RisR l→(∀p∈pre,∀c∈l,p<c)→(∀a x,a≤x→(∀c∈pre ++ l,¬(a<c∧c≤x))→f x=f a)→ConR f l:=by
    intro l
    induction l with
    |nil=>intro _ _ _ _;trivial
    | cons a l ih=>
      intro pre hr hp hf
      cases l with
      |nil=>trivial
      | cons b l=>
        refine ⟨fun x h1 h2=>hf a x h1 fun c hc=>?_,ih (pre ++ [a]) hr.2 (fun p hp2 c hc=>?_) (by rw [List.append_assoc];exact hf)⟩
        · rcases List.mem_append.1 hc with hc|hc
          · have:=hp c hc a jM;omega
          · rcases List.mem_cons.1 hc with rfl|hc
            · omega
            · have:=hbig l b hr.2 c hc;omega
        · rcases List.mem_append.1 hp2 with hp2|hp2
          · exact hp p hp2 c (jP hc)
          · simp at hp2
            subst hp2
            have:=hbig l b hr.2 c hc
            have:=hr.1
            omega
   exact main (a::b::l) [] h (fun p hp=>by cases hp) hf
def withF (L:List Rg) (lo hi how:Int):List Rg:=joinF (segsR (wayF L lo hi how) (cutsF L [lo,hi]))
theorem withF_spec {L:List Rg} {lo hi how:Int} (h:SrtR 0 L) (hp:∀r∈L,r.pr≠ -1) (h0:0≤lo) (hlt:lo<hi):
 CanR 0 none (withF L lo hi how)∧∀x,atR (withF L lo hi how) x=if lo≤x∧x<hi then wayO how else atR L x:=by
 obtain ⟨h1,h2⟩:=cutsF_spec L [lo,hi]
 have hb:∀c∈cutsF L [lo,hi],0≤c:=by
  intro c hc
  rcases (h2 c).1 hc with e|⟨r,hr,e⟩
  · simp at e;omega
  · have:=h.mem hr;omega
 have hcon:ConR (wayF L lo hi how) (cutsF L [lo,hi]):=by
  refine ris_con _ h1 fun a x hax hn=>?_
  have hl:=hn lo ((h2 lo).2 (.inl (by simp)))
  have hh:=hn hi ((h2 hi).2 (.inl (by simp)))
  have e:atR L x=atR L a:=atR_same L hax fun r hr=>⟨hn r.lo ((h2 _).2 (.inr ⟨r,hr,.inl rfl⟩)),hn r.hi ((h2 _).2 (.inr ⟨r,hr,.inr rfl⟩))⟩
  unfold wayF protI
  rw [e]
  by_cases c:lo≤a∧a<hi
  · rw [if_pos c,if_pos (by omega)]
  · rw [if_neg c,if_neg (by omega)]
 have hlo:=(h2 lo).2 (.inl (by simp))
 have hhi:=(h2 hi).2 (.inl (by simp))
 unfold withF
 cases hcs:cutsF L [lo,hi] with
 |nil=>rw [hcs] at hlo;cases hlo
 | cons a l=>
   rw [hcs] at h1 hcon hlo hhi hb
   have hbig:∀(l:List Int) (b:Int),RisR (b::l)→∀c∈b::l,b≤c∧c≤(b::l).getLast (by simp):=by
    intro l
    induction l with
    |nil=>intro b _ c hc;simp at hc ⊢;omega
    | cons d l ih=>
      intro b h c hc
      rw [List.getLast_cons (by simp)]
      rcases List.mem_cons.1 hc with rfl|hc
      · have:=ih d h.2 d jM
        have:=h.1
        omega
      · have:=ih d h.2 c hc
        have:=h.1
        omega
   have hs:=segsR_srt (wayF L lo hi how) l a h1
   obtain ⟨j1,j2⟩:=joinF_can (hs.less (hb a jM))
   refine ⟨j1,fun x=>?_⟩
   rw [j2]
   have bl:=hbig l a h1 lo hlo
   have bh:=hbig l a h1 hi hhi
   have hnone:(x<a∨(a::l).getLast (by simp)≤x)→atR L x=none:=by
    intro hx
    cases hv:atR L x with
    |none=>rfl
    | some p=>
      obtain ⟨r,hr,e1,e2,_⟩:=(h.at_iff x p).1 hv
      have m1:=(h2 r.lo).2 (.inr ⟨r,hr,.inl rfl⟩)
      have m2:=(h2 r.hi).2 (.inr ⟨r,hr,.inr rfl⟩)
      rw [hcs] at m1 m2
      have:=hbig l a h1 _ m1
      have:=hbig l a h1 _ m2
      omega
   by_cases c1:a≤x
   · by_cases c2:x<(a::l).getLast (by simp)
     · rw [segsR_at _ l a h1 hcon x c1 c2]
       unfold wayF
       split
       · rfl
       · unfold wayO protI
         cases hv:atR L x with
         |none=>rfl
         | some p=>
           obtain ⟨r,hr,_,_,e3⟩:=(h.at_iff x p).1 hv
           have:=hp r hr
           simp only [Option.getD_some]
           rw [if_neg (by omega)]
     · rw [segsR_out _ l a h1 x (by omega),if_neg (by omega),hnone (.inr (by omega))]
   · rw [hs.before (by omega),if_neg (by omega),hnone (.inl (by omega))]
theorem map_same {L:List Rg} {lo hi p:Int} (h:CanR 0 none L) (hp:∀r∈L,r.pr≠ -1) (h0:0≤lo) (hlt:lo<hi) (hpp:p≠ -1) (hd:∀r∈L,r.hi≤lo∨hi≤r.lo):joinedR (L ++ [⟨lo,hi,p⟩])=withF L lo hi p:=by
 obtain ⟨w1,w2⟩:=withF_spec (how:=p) h.srt hp h0 hlt
 have hpw:(L ++ [(⟨lo,hi,p⟩:Rg)]).Pairwise DisR:=by
  refine List.pairwise_append.2 ⟨h.srt.pair.imp fun e=>.inl e,List.pairwise_singleton _ _,fun r hr s hs=>?_⟩
  simp at hs
  subst hs
  exact hd r hr
 obtain ⟨g1,g2⟩:=sortG_srt (b:=0) hpw (fun r hr=>by
  rcases List.mem_append.1 hr with hr|hr
  · exact h.srt.mem hr
  · simp at hr;subst hr;exact ⟨h0,hlt⟩)
 obtain ⟨j1,j2⟩:=joinF_can g1
 refine canR_unique j1 w1 fun x _=>?_
 show atR (joinF (sortG _)) x=_
 rw [j2,w2]
 have key:∀q,atR (sortG (L ++ [⟨lo,hi,p⟩])) x=some q ↔ (if lo≤x∧x<hi then wayO p else atR L x)=some q:=by
  intro q
  rw [g2]
  split
  · rename_i c
    unfold wayO
    rw [if_neg hpp]
    constructor
    · rintro ⟨r,hr,e1,e2,e3⟩
      rcases List.mem_append.1 hr with hr|hr
      · have:=hd r hr;omega
      · simp at hr;subst hr;rw [←e3]
    · intro e
      exact ⟨_,List.mem_append_right _ jM,c.1,c.2,Option.some.inj e⟩
  · rename_i c
    rw [h.srt.at_iff]
    constructor
    · rintro ⟨r,hr,e1,e2,e3⟩
      rcases List.mem_append.1 hr with hr|hr
      · exact ⟨r,hr,e1,e2,e3⟩
      · simp at hr;subst hr;exact absurd ⟨e1,e2⟩ c
    · rintro ⟨r,hr,e⟩;exact ⟨r,List.mem_append_left _ hr,e⟩
 exact Option.ext key
theorem CanR.later {M:List Rg} {c d:Int} {q q':Option Int} (h:CanR c q M) (hd:d<c):CanR d q' M:=by
 cases M with
 |nil=>trivial
 |cons s M=>exact ⟨by have:=h.1;omega,h.2.1,by have:=h.1;omega,h.2.2.2⟩
theorem cut1_whole {lo hi:Int} {r:Rg} (h:r.lo<r.hi) (hlt:lo<hi) (c:r.hi≤lo∨hi≤r.lo):cut1 lo hi r=[r]:=by
 cases r with
 | mk a z q=>
   simp only at h c
   unfold cut1 minI maxI
   simp only
   rcases c with c|c
   · rw [if_neg (show ¬lo<z by omega),if_pos h,if_pos (show a<hi by omega),if_neg (show ¬hi<z by omega)];rfl
   · rw [if_pos (show lo<z by omega),if_neg (show ¬a<lo by omega),if_neg (show ¬a<hi by omega),if_pos h];rfl
theorem cut1_part {lo hi:Int} {r:Rg} (h:r.lo<r.hi) (hlt:lo<hi) (c1:lo<r.hi) (c2:r.lo<hi):cut1 lo hi r=(if r.lo<lo then [⟨r.lo,lo,r.pr⟩] else []) ++ (if hi<r.hi then [⟨hi,r.hi,r.pr⟩] else []):=by
 unfold cut1 minI maxI
 rw [if_pos c1,if_pos c2]
theorem cut_can:∀{L:List Rg} {b:Int} {p:Option Int} {lo hi:Int},lo<hi→CanR b p L→CanR b p (L.flatMap (cut1 lo hi))
 |[],_,_,_,_,_,_=>trivial
 | r ::L,b,p,lo,hi,hlt,h=>by
   obtain ⟨h1,h2,h3,h4⟩:=h
   have ih4:=cut_can hlt h4
   rw [List.flatMap_cons]
   generalize L.flatMap (cut1 lo hi)=T at ih4
   by_cases c:r.hi≤lo∨hi≤r.lo
   · rw [cut1_whole h2 hlt c]
     exact ⟨h1,h2,h3,ih4⟩
   · rw [cut1_part h2 hlt (by omega) (by omega)]
     by_cases c1:r.lo<lo
     · rw [if_pos c1]
       by_cases c2:hi<r.hi
       · rw [if_pos c2]
         exact ⟨h1,c1,h3,by simp only;omega,c2,fun e=>by have:=e.1;simp only at this;omega,ih4⟩
       · rw [if_neg c2]
         exact ⟨h1,c1,h3,ih4.later (by simp only;omega)⟩
     · rw [if_neg c1]
       by_cases c2:hi<r.hi
       · rw [if_pos c2]
         exact ⟨by simp only;omega,c2,fun e=>by have:=e.1;simp only at this;omega,ih4⟩
       · rw [if_neg c2]
         exact ih4.later (by omega)
theorem unmap_same {L:List Rg} {lo hi:Int} (h:CanR 0 none L) (hp:∀r∈L,r.pr≠ -1) (h0:0≤lo) (hlt:lo<hi):cutR L lo hi=withF L lo hi (-1):=by
 obtain ⟨w1,w2⟩:=withF_spec (how:= -1) h.srt hp h0 hlt
 obtain ⟨c1,c2⟩:=cutR_srt hlt h.srt
 unfold cutR
 rw [if_neg (by omega)]
 refine canR_unique (cut_can hlt h) w1 fun x _=>?_
 rw [c2,w2]
 rfl
theorem prot_same {L:List Rg} {lo hi p:Int} (h:CanR 0 none L) (hp:∀r∈L,r.pr≠ -1) (h0:0≤lo) (hlt:lo<hi) (hpp:p≠ -1):joinedR (cutR L lo hi ++ [⟨lo,hi,p⟩])=withF L lo hi p:=by
 obtain ⟨w1,w2⟩:=withF_spec (how:=p) h.srt hp h0 hlt
 obtain ⟨c1,c2⟩:=cutR_srt hlt h.srt
 have hcc:=cut_can hlt h
 have hpc:∀r∈L.flatMap (cut1 lo hi),r.pr≠ -1∧(r.hi≤lo∨hi≤r.lo):=by
  intro s hs
  obtain ⟨r,hr,hs⟩:=List.mem_flatMap.1 hs
  have hh:=(h.srt.mem hr).2
  by_cases c:r.hi≤lo∨hi≤r.lo
  · rw [cut1_whole hh hlt c] at hs
    simp at hs
    subst hs
    exact ⟨hp _ hr,c⟩
  · rw [cut1_part hh hlt (by omega) (by omega)] at hs
    rcases List.mem_append.1 hs with hs|hs
    · split at hs
      · simp at hs;subst hs;exact ⟨hp r hr,by simp⟩
      · cases hs
    · split at hs
      · simp at hs;subst hs;exact ⟨hp r hr,by simp⟩
      · cases hs
 have e:=map_same hcc (fun r hr=>(hpc r hr).1) h0 hlt hpp (fun r hr=>(hpc r hr).2)
 unfold cutR
 rw [if_neg (by omega),e]
 obtain ⟨v1,v2⟩:=withF_spec (how:=p) hcc.srt (fun r hr=>(hpc r hr).1) h0 hlt
 refine canR_unique v1 w1 fun x _=>?_
 rw [v2,w2,c2]
 split<;>rfl
theorem withF_pr {L:List Rg} {lo hi how:Int} (h:SrtR 0 L) (hp:∀r∈L,0≤r.pr∧r.pr≤3) (h0:0≤lo) (hlt:lo<hi) (hh:how≤3∧ -1≤how) {B:Int} (hB:∀r∈L,r.hi≤B) (hhi:hi≤B):∀r∈withF L lo hi how,(0≤r.pr∧r.pr≤3)∧r.hi≤B:=by
 obtain ⟨w1,w2⟩:=withF_spec (how:=how) h (fun r hr=>by have:=hp r hr;omega) h0 hlt
 intro r hr
 have hm:=(w1.srt.mem hr)
 have key:∀x,r.lo≤x→x<r.hi→(0≤r.pr∧r.pr≤3)∧x<B:=by
  intro x x1 x2
  have e:=(w1.srt.at_iff x r.pr).2 ⟨r,hr,x1,x2,rfl⟩
  rw [w2] at e
  split at e
  · unfold wayO at e
    split at e
    · cases e
    · rename_i c1 c2
      cases e
      omega
  · obtain ⟨s,hs,e1,e2,e3⟩:=(h.at_iff x r.pr).1 e
    have:=hp s hs
    have:=hB s hs
    omega
 have:=key r.lo (Int.le_refl _) hm.2
 have:=key (r.hi-1) (by omega) (by omega)
 omega
theorem pieces_nil {L:List Rg} {lo hi:Int} (h:∀r∈L,r.lo<r.hi) (hlt:lo<hi):piecesF L lo hi=[] ↔ ∀r∈L,r.hi≤lo∨hi≤r.lo:=by
 unfold piecesF
 rw [List.filter_eq_nil_iff]
 have key:∀r∈L,¬decide ((pieceR lo hi r).lo<(pieceR lo hi r).hi)=true ↔ r.hi≤lo∨hi≤r.lo:=by
  intro r hr
  have:=h r hr
  unfold pieceR maxI minI
  simp only [decide_eq_true_eq]
  repeat' split
  all_goals omega
 constructor
 · intro g r hr
   exact (key r hr).1 (g _ (List.mem_map.2 ⟨r,hr,rfl⟩))
 · intro g s hs
   obtain ⟨r,hr,rfl⟩:=List.mem_map.1 hs
   exact (key r hr).2 (g r hr)
def AllR (L:List Rg) (lo hi ways:Int):Prop:=∀x,lo≤x→x<hi→∃p,atR L x=some p∧andI p ways=ways
theorem all_go (ways hi:Int):∀(L:List Rg) (b c lo:Int),lo<hi→SrtR b L→lo≤c→c≤hi→(c=lo∨c≤b)→
 (allE hi (foldL (allSt ways) (some c) (piecesF L lo hi))=true ↔ ∀x,c≤x→x<hi→∃p,atR L x=some p∧andI p ways=ways)
 | [], b,c,lo,_,_,h1,h2,_=>by
   simp only [piecesF,List.map_nil,List.filter_nil,foldL,allE,decide_eq_true_eq]
   constructor
   · intro e x g1 g2;omega
   · intro g
     by_cases e:c=hi
     · exact e
     · obtain ⟨p,e1,_⟩:=g c (Int.le_refl _) (by omega)
       cases e1
 | r :: L, b,c,lo,hlt,hs,h1,h2,hc=>by
   obtain ⟨s1,s2,s3⟩:=hs
   have hpc:piecesF (r::L) lo hi=if (pieceR lo hi r).lo<(pieceR lo hi r).hi then pieceR lo hi r::piecesF L lo hi else piecesF L lo hi:=by
    unfold piecesF
    rw [List.map_cons,List.filter_cons]
    by_cases e:(pieceR lo hi r).lo<(pieceR lo hi r).hi
    · rw [if_pos (decide_eq_true e),if_pos e]
    · rw [if_neg (by simpa using e),if_neg e]
   rw [hpc]
   split
   · rename_i e
     rw [foldL]
     by_cases g:(pieceR lo hi r).lo≠c∨andI (pieceR lo hi r).pr ways≠ways
     · have e1:allSt ways (some c) (pieceR lo hi r)=(none,false):=by unfold allSt;simp only;rw [if_pos g]
       rw [e1]
       simp only [Bool.false_eq_true,if_false,allE,false_iff]
       intro hall
       unfold pieceR at e g
       simp only at e g
       by_cases gl:maxI r.lo lo=c
       · have hw:andI r.pr ways≠ways:=by
          rcases g with g|g
          · exact absurd gl g
          · exact g
         have hin:r.lo≤c∧c<r.hi∧c<hi:=by
          unfold maxI minI at *
          repeat' split at e
          all_goals repeat' split at gl
          all_goals omega
         obtain ⟨p,e1,e2⟩:=hall c (Int.le_refl _) hin.2.2
         unfold atR at e1
         rw [if_pos ⟨hin.1,hin.2.1⟩] at e1
         cases e1
         exact hw e2
       · have hin:c<r.lo∧c<hi:=by
          unfold maxI minI at *
          repeat' split at e
          all_goals repeat' split at gl
          all_goals repeat' split at hc0
          all_goals omega
         obtain ⟨p,e1,e2⟩:=hall c (Int.le_refl _) hin.2
         unfold atR at e1
         rw [if_neg (by omega),s3.before (by omega)] at e1
         cases e1
     · have e1:allSt ways (some c) (pieceR lo hi r)=(some (pieceR lo hi r).hi,true):=by unfold allSt;simp only;rw [if_neg g]
       rw [e1]
       simp only [if_true]
       have g1:maxI r.lo lo=c:=by
        by_cases g2:maxI r.lo lo=c
        · exact g2
        · exact absurd (.inl g2) g
       have g2:andI r.pr ways=ways:=by
        by_cases g3:andI r.pr ways=ways
        · exact g3
        · exact absurd (.inr g3) g
       unfold pieceR at e
       simp only at e
       have hh:(pieceR lo hi r).hi≤hi∧c≤(pieceR lo hi r).hi∧lo≤(pieceR lo hi r).hi∧(pieceR lo hi r).hi≤r.hi∧r.lo≤c∧((pieceR lo hi r).hi=r.hi∨(pieceR lo hi r).hi=hi):=by
        unfold pieceR maxI minI at *
        simp only at *
        repeat' split at e
        all_goals repeat' split at g1
        all_goals repeat' split
        all_goals omega
       rw [all_go ways hi L r.hi (pieceR lo hi r).hi lo hlt s3 hh.2.2.1 hh.1 (.inr hh.2.2.2.1)]
       constructor
       · intro hall x x1 x2
         unfold atR
         by_cases hx:x<r.hi
         · rw [if_pos ⟨by omega,hx⟩];exact ⟨_,rfl,g2⟩
         · rw [if_neg (by omega)]
           exact hall x (by omega) x2
       · intro hall x x1 x2
         obtain ⟨p,e1,e2⟩:=hall x (by omega) x2
         unfold atR at e1
         rw [if_neg (by omega)] at e1
         exact ⟨p,e1,e2⟩
   · rename_i e
     have hout:r.hi≤lo∨hi≤r.lo:=by
      unfold pieceR at e
      simp only at e
      have m1:(r.lo<lo∧maxI r.lo lo=lo)∨(lo≤r.lo∧maxI r.lo lo=r.lo):=by unfold maxI;split<;>omega
      have m2:(hi<r.hi∧minI r.hi hi=hi)∨(r.hi≤hi∧minI r.hi hi=r.hi):=by unfold minI;split<;>omega
      omega
     rw [all_go ways hi L r.hi c lo hlt s3 h1 h2 (by omega)]
     constructor
     · intro hall x x1 x2
       obtain ⟨p,e1,e2⟩:=hall x x1 x2
       unfold atR
       rw [if_neg (by omega)]
       exact ⟨p,e1,e2⟩
     · intro hall x x1 x2
       obtain ⟨p,e1,e2⟩:=hall x x1 x2
       unfold atR at e1
       rw [if_neg (by omega)] at e1
       exact ⟨p,e1,e2⟩
theorem all_iff {L:List Rg} {b lo hi ways:Int} (h:SrtR b L) (hlt:lo<hi):allF L lo hi ways=true ↔ AllR L lo hi ways:=by
 unfold allF
 rw [if_neg (by omega),all_go ways hi L b lo lo hlt h (Int.le_refl _) (by omega) (.inl rfl)]
 rfl
theorem right_iff {L:List Rg} {pages:Int}:rightL pages L=true ↔ CanR 0 none L∧∀r∈L,r.hi≤pages∧0≤r.pr∧r.pr≤3:=by
 have hs:∀r,goodS pages r=true ↔ (0≤r.lo∧r.lo<r.hi∧r.hi≤pages)∧0≤r.pr∧r.pr≤3:=by
  intro r
  unfold goodS protB
  rw [Bool.and_eq_true,decide_eq_true_eq,decide_eq_true_eq]
 have hgo:∀(L:List Rg),(∀i,i<L.length→goodAt pages L i=true) ↔ CanR 0 none L∧∀r∈L,r.hi≤pages∧0≤r.pr∧r.pr≤3:=by
  intro L
  have hat:∀(y:Rg) (M:List Rg),(∀i,i<M.length→goodAt pages (y::M) (i+1)=true)∧0≤y.lo∧y.lo<y.hi ↔ (CanR y.hi (some y.pr) M∧∀r∈M,r.hi≤pages∧0≤r.pr∧r.pr≤3)∧0≤y.lo∧y.lo<y.hi:=by
   intro y M
   induction M generalizing y with
   |nil=>simp [CanR]
   | cons r M ih=>
     have hstep:∀i,goodAt pages (y::r::M) (i+1+1)=goodAt pages (r::M) (i+1):=fun i=>by
      unfold goodAt
      simp
     have h0:goodAt pages (y::r::M) (0+1)=(goodS pages r && goodP y r):=by
      unfold goodAt
      simp
     have hp:goodP y r=true ↔ y.hi≤r.lo∧¬(r.lo=y.hi∧r.pr=y.pr):=by unfold goodP;rw [decide_eq_true_eq]
     have ihr:=ih r
     constructor
     · rintro ⟨g,gy⟩
       have g0:=g 0 (by simp)
       rw [h0,Bool.and_eq_true,hs,hp] at g0
       obtain ⟨⟨⟨a1,a2,a3⟩,a4⟩,a5,a6⟩:=g0
       have hi:=(ihr.1 ⟨fun i hi=>by rw [←hstep];exact g (i+1) (by simp;exact hi),a1,a2⟩).1
       refine ⟨⟨⟨a5,a2,fun e=>a6 ⟨e.1,Option.some.inj e.2⟩,hi.1⟩,fun s hs=>?_⟩,gy⟩
       rcases List.mem_cons.1 hs with rfl|hs
       · exact ⟨a3,a4⟩
       · exact hi.2 s hs
     · rintro ⟨⟨⟨c1,c2,c3,c4⟩,hm⟩,gy⟩
       refine ⟨fun i hi=>?_,gy⟩
       cases i with
       | zero=>
         rw [h0,Bool.and_eq_true,hs,hp]
         have:=hm r jM
         exact ⟨⟨⟨by omega,c2,this.1⟩,this.2⟩,c1,fun e=>c3 ⟨e.1,by rw [e.2]⟩⟩
       | succ i=>
         rw [hstep]
         exact (ihr.2 ⟨⟨c4,fun s hs=>hm s (jP hs)⟩,by omega,c2⟩).1 i (by simpa using hi)
  cases L with
  |nil=>simp [CanR]
  | cons y M=>
    have h0:goodAt pages (y::M) 0=goodS pages y:=by unfold goodAt;simp
    constructor
    · intro g
      have g0:=g 0 (by simp)
      rw [h0,hs] at g0
      obtain ⟨⟨a1,a2,a3⟩,a4⟩:=g0
      have hi:=((hat y M).1 ⟨fun i hi=>g (i+1) (by simp;exact hi),a1,a2⟩).1
      refine ⟨⟨a1,a2,(fun e=>by cases e.2),hi.1⟩,fun s hs=>?_⟩
      rcases List.mem_cons.1 hs with rfl|hs
      · exact ⟨a3,a4⟩
      · exact hi.2 s hs
    · rintro ⟨⟨c1,c2,c3,c4⟩,hm⟩ i hi
      cases i with
      | zero=>
        rw [h0,hs]
        have:=hm y jM
        exact ⟨⟨c1,c2,this.1⟩,this.2⟩
      |succ i=>exact ((hat y M).2 ⟨⟨c4,fun s hs=>hm s (jP hs)⟩,c1,c2⟩).1 i (by simpa using hi)
 rw [←hgo]
 unfold rightL
 rw [List.all_eq_true]
 simp
end Go.Proofs.YtlhfjaagkgengaaGreat
