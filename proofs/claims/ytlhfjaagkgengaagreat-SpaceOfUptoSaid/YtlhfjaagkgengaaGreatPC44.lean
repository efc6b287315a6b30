/- The document's machine: Do of any operation. Spaces over a shelf, as a law sees them. almanaclaw16.known, walked. -/
import Derived.Test.YtlhfjaagkgengaaGreatPC43
import Derived.Test.YtlhfjaagkgengaaGreatPC30
namespace Go.Proofs.YtlhfjaagkgengaaGreat
set_option maxRecDepth 100000
open Go.RowKit Go.Maps
set_option linter.unusedVariables false
set_option linter.unusedSimpArgs false
structure AnsP where
 err:Int
 pid:Int
 data:Bytes
 pids:List Int
def firstN (P:MaP):Nat:=(P.takeWhile Option.isSome).length
def doPr (S:SpD) (P:MaP) (o:OpP) (k:Nat) (p:PrP):MaP×AnsP:=
 if o.kind=2 then (P.set k (some ⟨(mappedF S p.R o.at_ o.n o.prot).1,p.L⟩),⟨0,0,[],[]⟩)
 else if o.kind=3 then (P.set k (some ⟨(unmappedF S p.R o.at_ o.n).1,p.L.filter fun q=>keepU o.at_ o.n q.1⟩),⟨0,0,[],[]⟩)
 else if o.kind=4 then (P.set k (some ⟨(protectedF S p.R o.at_ o.n o.prot).1,p.L⟩),⟨0,0,[],[]⟩)
 else if o.kind=5 then (P,⟨0,0,ldN S.pg p.L o.at_.toNat o.n.toNat,[]⟩)
 else if o.kind=6 then (P.set k (some ⟨p.R,stL S.pg p.L o.at_.toNat o.data⟩),⟨0,0,[],[]⟩)
 else if o.kind=7 then (P.set (firstN P) (some p),⟨0,(firstN P:Nat),[],[]⟩)
 else (P.set k none,⟨0,0,[],[]⟩)
def doF (S:SpD) (P:MaP) (o:OpP):MaP×AnsP:=
 if chkF S P o≠0 then (P,⟨chkF S P o,0,[],[]⟩)
 else if o.kind=9 then (P,⟨0,0,[],pidsF (P.map Option.isSome)⟩)
 else if o.kind=1 then (P.set (firstN P) (some ⟨[],[]⟩),⟨0,(firstN P:Nat),[],[]⟩)
 else match getP P o.pid with
  |none=>(P,⟨0,0,[],[]⟩)
  |some p=>doPr S P o o.pid.toNat p
def AnsAt (w w':World) (x:AnsP) (e:Ending):Prop:=
 ∃Ad cd Ap cp,e=.returned (ansV x.err x.pid (.slice Ad x.data.length cd) (.slice Ap x.pids.length cp))∧SBy w' Ad x.data.length x.data∧EAt inE w' Ap x.pids∧(∀g o,Ad=some ⟨g,o,none⟩→w.heap.size≤g)∧(∀g o,Ap=some ⟨g,o,none⟩→w.heap.size≤g)
def DoPost (w:World) (D:MaD) (P:List (Option MPr)) (o:OpP) (e:Ending) (w':World):Prop:=
 ∃P',MaAt w' D P'∧MaN w w' D P P'∧plP P'=(doF D.sd (plP P) o).1∧AnsAt w w' (doF D.sd (plP P) o).2 e
section
variable {w w':World} {D:MaD} {P:List (Option MPr)} {p:MPr} {k:Nat}
theorem ans_nil (w w':World) (err pid:Int):AnsAt w w' ⟨err,pid,[],[]⟩ (.returned (ansV err pid (.slice none 0 0) (.slice none 0 0))):=
 ⟨none,0,none,0,rfl,SBy.nil _ _,EAt.nil _ _ _,(fun g o e=>by cases e),(fun g o e=>by cases e)⟩
theorem plP_set (P:List (Option MPr)) (k:Nat) (x:Option MPr):plP (P.set k x)=(plP P).set k (x.map MPr.pl):=by unfold plP;rw [List.map_set]
theorem first_at {P:List (Option MPr)} (h1:P[k]? =some none) (h2:∀i,i<k→∃q,P[i]? =some (some q)):firstN (plP P)=k:=by
 have key:∀(P:List (Option MPr)) (k:Nat),P[k]? =some none→(∀i,i<k→∃q,P[i]? =some (some q))→firstN (plP P)=k:=by
  intro P
  induction P with
  |nil=>intro k h;simp at h
  | cons x P ih=>
    intro k h1 h2
    cases k with
    | zero=>
      simp at h1
      subst h1
      rfl
    | succ k=>
      obtain ⟨q,hq⟩:=h2 0 (by omega)
      simp at hq
      subst hq
      have:=ih k (by simpa using h1) fun i hi=>by
       obtain ⟨q,hq⟩:=h2 (i+1) (by omega)
       exact ⟨q,by simpa using hq⟩
      unfold firstN plP at this ⊢
      rw [List.map_cons,Option.map_some,List.takeWhile_cons]
      simp only [Option.isSome_some,if_true,List.length_cons]
      rw [this]
 exact key P k h1 h2
theorem check_bounds {S:SpD} {R:List Rg} {a n ways:Int} (hS:S.ps*S.pg≤268435456) (h:checkF S R a n ways=0):0≤a∧0≤n∧a.toNat + n.toNat≤268435456:=by
 unfold checkF at h
 split at h
 · cases h
 · rename_i hn
   omega
theorem right9_op {kind pid a n r:Int} {m:Nat} {data:Bytes} (hm:data.length=m):right9 kind (pid !=0) (a !=0) (n !=0) (r !=0) (decide (0<m))=(OpP.mk kind pid a n r data).right:=by
 unfold OpP.right
 simp only
 rw [hm]
theorem right_kind {kind:Int} {bp ba bn br bd:Bool} (h:right9 kind bp ba bn br bd=true):kind=1∨kind=2∨kind=3∨kind=4∨kind=5∨kind=6∨kind=7∨kind=8∨kind=9:=by
 by_cases hk:kind=1∨kind=2∨kind=3∨kind=4∨kind=5∨kind=6∨kind=7∨kind=8∨kind=9
 · exact hk
 · unfold right9 at h
   rw [if_neg (by omega),if_neg (by omega),if_neg (by omega),if_neg (by omega),if_neg (by omega)] at h
   cases h
theorem chk_any (h:MaAt w D P) (hrs:∀p,some p∈P→rightL D.ps p.R=true∧p.R.length≤1000) (kind pid at_ n prot:Int) (data:Bytes) (A:Option Addr) (c:Nat):
 Calls Tryz.prog 88 #[.pointer (some ⟨D.X,0,none⟩),.agg #[.int .i64 kind,.int .i64 pid,.int .i64 at_,.int .i64 n,.int .i64 prot,.slice A data.length c]] w fun e w'=>e=.returned (.int .i64 (chkF D.sd (plP P) ⟨kind,pid,at_,n,prot,data⟩))∧Below w.heap.size w w':=by
 have hro:=right9_op (kind:=kind) (pid:=pid) (a:=at_) (n:=n) (r:=prot) (data:=data) rfl
 by_cases hr:(OpP.mk kind pid at_ n prot data).right=true
 · rw [hr] at hro
   have hc:chkF D.sd (plP P) ⟨kind,pid,at_,n,prot,data⟩=if kind=9 then 0 else if kind=1 then (if fullB (plP P)=true then 5 else 0) else match getP (plP P) pid with
    |none=>2
    |some p=>if kind=5 then checkF D.sd p.R at_ n 1 else if kind=6 then checkF D.sd p.R at_ (data.length:Nat) 2 else if kind=7 then (if fullB (plP P)=true then 5 else 0) else if kind=8 then 0 else (regF D.sd p.R kind at_ n prot).2:=by
    unfold chkF
    rw [if_neg (by rw [hr];simp)]
    rfl
   rw [hc]
   clear hc hr
   have hcases:kind=9∨kind=1∨((kind=2∨kind=3∨kind=4∨kind=5∨kind=6∨kind=7∨kind=8)):=by have:=right_kind hro;omega
   rcases hcases with rfl|rfl|hk
   · exact chk_list h pid at_ n prot A data.length c hro
   · exact chk_make h pid at_ n prot A data.length c hro
   · have e9:kind≠9:=by omega
     have e1:kind≠1:=by omega
     rw [if_neg e9,if_neg e1]
     cases hh:hasF (P.map Option.isSome) pid with
     | false=>
       rw [has_none hh]
       simp only
       rcases hk with rfl|rfl|rfl|rfl|rfl|rfl|rfl
       · exact chk_none2 h pid at_ n prot A data.length c hro hh
       · exact chk_none3 h pid at_ n prot A data.length c hro hh
       · exact chk_none4 h pid at_ n prot A data.length c hro hh
       · exact chk_none5 h pid at_ n prot A data.length c hro hh
       · exact chk_none6 h pid at_ n prot A data.length c hro hh
       · exact chk_none7 h pid at_ n prot A data.length c hro hh
       · exact chk_none8 h pid at_ n prot A data.length c hro hh
     | true=>
       obtain ⟨k,p,rfl,hkp,hg⟩:=has_get hh
       rw [hg]
       simp only
       obtain ⟨r1,r2⟩:=hrs p (jG hkp)
       rcases hk with rfl|rfl|rfl|rfl|rfl|rfl|rfl
       · exact chk_regs2 h hkp at_ n prot A data.length c r1 r2 hro
       · exact chk_regs3 h hkp at_ n prot A data.length c r1 r2 hro
       · exact chk_regs4 h hkp at_ n prot A data.length c r1 r2 hro
       · exact chk_bytes5 h hkp at_ n prot A data.length c r1 r2 hro
       · exact chk_bytes6 h hkp at_ n prot A data.length c r1 r2 hro
       · exact chk_fork h hkp at_ n prot A data.length c hro
       · exact chk_exit h hkp at_ n prot A data.length c hro
 · have hr2:(OpP.mk kind pid at_ n prot data).right=false:=by
    cases hc:(OpP.mk kind pid at_ n prot data).right with
    |true=>exact absurd hc hr
    |false=>rfl
   rw [hr2] at hro
   rw [show chkF D.sd (plP P) ⟨kind,pid,at_,n,prot,data⟩=1 by unfold chkF;rw [if_pos hr2]]
   exact chk_bad h kind pid at_ n prot A data.length c hro
theorem do_of_pr {e:Ending} {o:OpP} {R:PrP} (hd:doF D.sd (plP P) o=((plP P).set k (some R),⟨0,0,[],[]⟩)) (h:DoPr w D P k R e w'):DoPost w D P o e w':=by
 obtain ⟨p2,h1,h2,h3,rfl⟩:=h
 refine ⟨_,h2,h3,?_,?_⟩
 · rw [hd,plP_set]
   simp only [Option.map_some,h1]
 · rw [hd]
   exact ans_nil _ _ _ _
theorem do_of_new {e:Ending} {o:OpP} {R:PrP} (hd:doF D.sd (plP P) o=((plP P).set (firstN (plP P)) (some R),⟨0,(firstN (plP P):Nat),[],[]⟩)) (h:DoNew w D P R e w'):DoPost w D P o e w':=by
 obtain ⟨j,p2,g1,g2,h1,h2,h3,rfl⟩:=h
 have hf:=first_at g1 g2
 rw [hf] at hd
 refine ⟨_,h2,h3,?_,?_⟩
 · rw [hd,plP_set]
   simp only [Option.map_some,h1]
 · rw [hd]
   exact ans_nil _ _ _ _
theorem do_any (h:MaAt w D P) (kind pid at_ n prot:Int) (data:Bytes) (hrs:∀p,some p∈P→rightL D.ps p.R=true∧p.R.length≤1000∧p.L.length+data.length≤100000) {A:Option Addr} (c:Nat) (hS:SBy w A data.length data) (hdat:∀g o,0<data.length→A=some ⟨g,o,none⟩→¬maO D P g):
 Calls Tryz.prog 70 #[.pointer (some ⟨D.X,0,none⟩),.agg #[.int .i64 kind,.int .i64 pid,.int .i64 at_,.int .i64 n,.int .i64 prot,.slice A data.length c]] w (DoPost w D P ⟨kind,pid,at_,n,prot,data⟩):=by
 have HCH:Hid (∀V,Below w.heap.size w V→Calls Tryz.prog 88 #[.pointer (some ⟨D.X,0,none⟩),.agg #[.int .i64 kind,.int .i64 pid,.int .i64 at_,.int .i64 n,.int .i64 prot,.slice A data.length c]] V fun e w'=>e=.returned (.int .i64 (chkF D.sd (plP P) ⟨kind,pid,at_,n,prot,data⟩))∧Below V.heap.size V w'):=hJ fun V hV=>
  chk_any (h.up hV) (fun p hp=>⟨(hrs p hp).1,(hrs p hp).2.1⟩) kind pid at_ n prot data A c
 have hD:doF D.sd (plP P) ⟨kind,pid,at_,n,prot,data⟩=if chkF D.sd (plP P) ⟨kind,pid,at_,n,prot,data⟩≠0 then (plP P,⟨chkF D.sd (plP P) ⟨kind,pid,at_,n,prot,data⟩,0,[],[]⟩)
  else if kind=9 then (plP P,⟨0,0,[],pidsF ((plP P).map Option.isSome)⟩)
  else if kind=1 then ((plP P).set (firstN (plP P)) (some ⟨[],[]⟩),⟨0,(firstN (plP P):Nat),[],[]⟩)
  else match getP (plP P) pid with
   |none=>(plP P,⟨0,0,[],[]⟩)
   |some p=>doPr D.sd (plP P) ⟨kind,pid,at_,n,prot,data⟩ pid.toNat p:=rfl
 by_cases hz:chkF D.sd (plP P) ⟨kind,pid,at_,n,prot,data⟩=0
 · have hz0:=hz
   rw [hz] at HCH hD
   rw [if_neg (by simp)] at hD
   have hr:(OpP.mk kind pid at_ n prot data).right=true:=by
    cases hc:(OpP.mk kind pid at_ n prot data).right with
    |true=>rfl
    |false=>unfold chkF at hz;rw [if_pos hc] at hz;cases hz
   have hro:=right9_op (kind:=kind) (pid:=pid) (a:=at_) (n:=n) (r:=prot) (data:=data) rfl
   rw [hr] at hro
   unfold chkF at hz
   rw [if_neg (by rw [hr];simp)] at hz
   simp only at hz
   have hcases:kind=9∨kind=1∨((kind=2∨kind=3∨kind=4∨kind=5∨kind=6∨kind=7∨kind=8)):=by have:=right_kind hro;omega
   rcases hcases with rfl|rfl|hk
   · rw [if_pos rfl,plP_some] at hD
     refine (do_list h pid at_ n prot A data.length c HCH).mono ?_
     rintro e w' ⟨A',c',rfl,hf⟩
     refine ⟨P,h.up hf.2,MaN.refl.up hf.2,by rw [hD],?_⟩
     rw [hD]
     refine ⟨none,0,A',c',rfl,SBy.nil _ _,hf.1.rg,(fun g o e=>by cases e),fun g o e=>?_⟩
     rcases hf.1.cases with ⟨e1,_⟩|⟨g1,e1⟩
     · rw [e] at e1;cases e1
     · rw [e] at e1
       cases e1
       exact (hf.1.lt (k:=g) (by rw [e];rfl)).1
   · rw [if_neg (by omega),if_pos rfl] at hD hz
     have hnf:¬fullB (plP P)=true:=fun e=>by rw [if_pos e] at hz;cases hz
     exact (do_make h hnf pid at_ n prot A data.length c HCH).mono fun e w'=>do_of_new hD
   · have e9:kind≠9:=by omega
     have e1:kind≠1:=by omega
     rw [if_neg e9,if_neg e1] at hD hz
     cases hh:hasF (P.map Option.isSome) pid with
     | false=>
       rw [has_none hh] at hz
       cases hz
     | true=>
       obtain ⟨k,p,rfl,hkp,hg⟩:=has_get hh
       rw [hg] at hz hD
       simp only [Int.toNat_natCast] at hz hD
       obtain ⟨r1,r2,r3⟩:=hrs p (jG hkp)
       have hps:D.sd.ps*D.sd.pg≤268435456:=Nat.le_trans (Nat.mul_le_mul h.f.sok.b8.2 h.f.sok.b4.2) (by omega)
       rcases hk with rfl|rfl|rfl|rfl|rfl|rfl|rfl
       · exact (do_map h hkp r1 r2 at_ n prot A data.length c hz HCH).mono fun e w'=>do_of_pr hD
       · exact (do_unmap h hkp r1 r2 (by omega) at_ n prot A data.length c hz HCH).mono fun e w'=>do_of_pr hD
       · exact (do_prot h hkp r1 r2 at_ n prot A data.length c hz HCH).mono fun e w'=>do_of_pr hD
       · obtain ⟨b1,b2,b3⟩:=check_bounds hps hz
         obtain ⟨av,rfl⟩:=Int.eq_ofNat_of_zero_le b1
         obtain ⟨nn,rfl⟩:=Int.eq_ofNat_of_zero_le b2
         simp only [Int.toNat_natCast] at b3
         refine (do_load h hkp (by omega) av nn b3 prot A data.length c HCH).mono ?_
         rintro e w' ⟨A',c',rfl,hf⟩
         refine ⟨P,h.up hf.bel,MaN.refl.up hf.bel,by rw [hD];rfl,?_⟩
         rw [hD]
         have hl:(ldN D.z p.pl.L av nn).length=nn:=ldN_len _ _ _ _
         show AnsAt w w' ⟨0,0,ldN D.z p.pl.L ((av:Nat):Int).toNat ((nn:Nat):Int).toNat,[]⟩ _
         rw [Int.toNat_natCast,Int.toNat_natCast]
         refine ⟨A',c',none,0,by simp only [hl];rfl,?_,EAt.nil _ _ _,fun g o e=>?_,(fun g o e=>by cases e)⟩
         · simp only [hl]
           exact hf.sby
         · exact (hf.own.lt g (by rw [e];rfl)).1
       · obtain ⟨b1,b2,b3⟩:=check_bounds hps hz
         obtain ⟨av,rfl⟩:=Int.eq_ofNat_of_zero_le b1
         rw [Int.toNat_natCast,Int.toNat_natCast] at b3
         exact (do_store h hkp av n prot A data.length c b3 r3 hS hdat HCH).mono fun e w'=>do_of_pr hD
       · have hnf:¬fullB (plP P)=true:=fun e=>by
          rw [if_neg (by omega),if_neg (by omega),if_pos rfl,if_pos e] at hz
          cases hz
         exact (do_fork h hkp hnf r2 (by omega) at_ n prot A data.length c HCH).mono fun e w'=>do_of_new hD
       · refine (do_exit h hkp at_ n prot A data.length c HCH).mono ?_
         rintro e w' ⟨h1,h2,rfl⟩
         refine ⟨_,h1,h2,?_,?_⟩
         · rw [hD,plP_set];rfl
         · rw [hD]
           exact ans_nil _ _ _ _
 · rw [if_pos hz] at hD
   refine (do_err w D.X kind pid at_ n prot A data.length c hz HCH).mono ?_
   rintro e w' ⟨rfl,hb⟩
   refine ⟨P,h.up hb,MaN.refl.up hb,by rw [hD],?_⟩
   rw [hD]
   exact ans_nil _ _ _ _
end
set_option maxRecDepth 100000
structure LW (S:Nat) (w0 w:World) (d:PD) (t:PSt ShS) (C:Cu) (k:Nat) (l:List Spc):Prop where
 sw:SW (shM S) shP w d t C k l
 bel:Below w0.heap.size w0 w
 own:∀q,swO d t l q→w0.heap.size≤q
 rm:shP.room t.s<0
section
variable {S:Nat} {w0 w w' w1 w2:World} {d:PD} {t t' t1 t2:PSt ShS} {C C':Cu} {k k0 k1:Nat} {l l':List Spc} {s s':Spc} {T:Nat→Prop}
theorem LW.go (h:LW S w0 w d t C k0 l) (hs:SW (shM S) shP w' d t' C' k l') (hn:SwN shP w w' d t t' l l'):LW S w0 w' d t' C' k l':=by
 have hz:=h.bel.size
 exact ⟨hs,h.bel.trans (hn.off.below h.own hz),fun q hq=>by rcases hn.own q hq with e|e;exact h.own q e;omega,hn.rm h.rm⟩
theorem LW.up (h:LW S w0 w d t C k l) (hb:Below w.heap.size w w'):LW S w0 w' d t C k l:=h.go (h.sw.up hb) (SwN.refl.up hb)
theorem LW.less (h:LW S w0 w d t C k l) {k':Nat} (hk:k'≤k):LW S w0 w d t C k' l:=⟨h.sw.less shK_good hk,h.bel,h.own,h.rm⟩
theorem LW.perm (h:LW S w0 w d t C k l) (hp:l.Perm l'):LW S w0 w d t C k l':=⟨h.sw.perm hp,h.bel,fun q hq=>h.own q ((swO_perm hp).2 hq),h.rm⟩
theorem LW.off (h:LW S w0 w d t C k l) (ho:Off T w w') (h1:∀b,T b→¬swO d t l b) (h2:∀b,T b→w0.heap.size≤b):LW S w0 w' d t C k l:=
 ⟨h.sw.off ho h1,h.bel.trans (ho.below h2 h.bel.size),h.own,h.rm⟩
def StL9 (S:Nat) (w0 w:World) (d:PD) (t:PSt ShS) (C:Cu) (k:Nat) (s:Spc) (l:List Spc) (a:Nat) (bs:Bytes) (e:Ending) (w':World):Prop:=
 ∃t' C' m' n',e=.returned (.int .i64 0)∧LW S w0 w' d t' C' k ({s with m:=m',n:=n'}::l)∧SwN shP w w' d t t' (s::l) ({s with m:=m',n:=n'}::l)∧(∀x∈l,x.mem C'=x.mem C)∧StW s C C' m' t.nx a bs
theorem LW.store {bA:Option Addr} {bn bc:Nat} {bs:Bytes} (h:LW S w0 w d t C (k+2*bs.length) (s::l)) (a:Nat) (hS:SBy w bA bn bs) (hbc:bn≤bc) (hbn:bn≤9223372036854775807) (hV:VIn (fun g=>g<w.heap.size∧¬swO d t (s::l) g) (.slice bA bn bc)) (hc:checkF s.D s.L a bs.length 2=0):
 Calls Tryz.prog 17 #[.pointer (some ⟨s.D.X,0,none⟩),.int .i64 (a:Nat),.slice bA bn bc] w (StL9 S w0 w d t C k s l a bs):=by
 have hz:0<s.D.pg:=by have:=(h.sw.ss s jM).ok.b4;omega
 have hp:=parts_le (a:=(a:Int).toNat) (n:=bs.length) hz
 refine (SW.store (k:=k) shK_good shP_miss a (h.less (by omega)).sw hS hbc hbn (hV.mono fun g hg=>⟨hg.1,fun e=>hg.2 (.inl e)⟩)).mono ?_
 rintro e w' ⟨t',C',m',n',h1,h2,h3,hc2⟩
 rcases hc2 with ⟨c1,_⟩|⟨_,he,hw⟩|⟨_,c1,_⟩
 · exact absurd hc c1
 · exact ⟨t',C',m',n',he,h.go h1 h2,h2,h3,by rw [Int.toNat_natCast] at hw;exact hw⟩
 · exact absurd h.rm c1
def LdL9 (S:Nat) (w0 w:World) (d:PD) (t:PSt ShS) (C:Cu) (k:Nat) (s:Spc) (l:List Spc) (a j:Nat) (e:Ending) (w':World):Prop:=
 ∃t' A' c',e=.returned (.tuple #[.slice A' j c',.int .i64 0])∧LW S w0 w' d t' C k (s::l)∧SwN shP w w' d t t' (s::l) (s::l)∧OwB w.heap.size w' (.slice A' j c') (rngF (flatF s.D.pg (s.mem C)) a j)∧∀g,(Value.slice A' j c').ownBlock=some g→¬swO d t' (s::l) g
theorem LW.load {j:Nat} (h:LW S w0 w d t C (k+j) (s::l)) (a:Nat) (hc:checkF s.D s.L a j 1=0):
 Calls Tryz.prog 18 #[.pointer (some ⟨s.D.X,0,none⟩),.int .i64 (a:Nat),.int .i64 (j:Nat)] w (LdL9 S w0 w d t C k s l a j):=by
 have hz:0<s.D.pg:=by have:=(h.sw.ss s jM).ok.b4;omega
 have hp:=parts_le (a:=(a:Int).toNat) (n:=(j:Int).toNat) hz
 refine (SW.load (k:=k) shK_good shP_miss a j (h.less (by omega)).sw).mono ?_
 rintro e w' ⟨t',h1,h2,_,hc2⟩
 rcases hc2 with ⟨c1,_⟩|⟨_,A',c',he,ho,hq⟩|⟨_,c1,_⟩
 · exact absurd hc c1
 · rw [Int.toNat_natCast,Int.toNat_natCast] at *
   exact ⟨t',A',c',he,h.go h1 h2,h2,ho,hq⟩
 · exact absurd h.rm c1
def MpL9 (S:Nat) (w0 w:World) (d:PD) (t:PSt ShS) (C:Cu) (k:Nat) (s:Spc) (l:List Spc) (a n:Int) (e:Ending) (w':World):Prop:=
 ∃A' cap',e=.returned (.int .i64 0)∧LW S w0 w' d t C k ({s with A:=A',cap:=cap',L:=[⟨a,a+n,3⟩]}::l)∧SwN shP w w' d t t (s::l) ({s with A:=A',cap:=cap',L:=[⟨a,a+n,3⟩]}::l)
theorem LW.map1 (h:LW S w0 w d t C k (s::l)) (hL:s.L=[]) {a n:Int} (ha:0≤a) (hn:1≤n) (hs:a+n≤s.D.ps):
 Calls Tryz.prog 16 #[.pointer (some ⟨s.D.X,0,none⟩),.int .i64 a,.int .i64 n,.int .i64 3] w (MpL9 S w0 w d t C k s l a n):=by
 have g:=h.sw.ss s jM
 have b8:=g.ok.b8
 refine (ssMap_b g a n 3 (fun _ _ _=>by rw [hL];exact dist_one _ ⟨ha,by simp only;omega⟩)).mono ?_
 intro e w' hr
 rw [hL,map_one g.ok ha hn hs (by omega)] at hr
 have hr':RsPost (shM S) shP w d t C k s.D s.A s.cap s.L s.m s.n ([⟨a,a+n,3⟩],0) e w':=by rw [hL];exact hr
 obtain ⟨he,A',cap',h1,h2⟩:=h.sw.regs hr'
 rw [if_pos rfl] at h1 h2
 exact ⟨A',cap',he,h.go h1 h2,h2⟩
end
set_option maxRecDepth 100000
theorem lw_po2 {w w':World} {z held:Int} {e:Ending} (h:PoPost w z held e w'):∃S d t,e=.returned (.pointer (some ⟨d.Q,0,none⟩))∧LW S w w' d t (fun _=>none) 1990000 []∧(d.z:Int)=z∧(d.n:Int)=held:=by
 obtain ⟨S,d,t,he,hs,hz,hn,ho,hb,hr,_⟩:=h
 exact ⟨S,d,t,he,⟨hs,hb,fun q hq=>(by rcases hq with hq|⟨x,hx,_⟩<;>first|exact ho q hq|cases hx),hr⟩,hz,hn⟩
theorem lw_po {w w':World} {z held:Int} {e:Ending} (h:PoPost w z held e w'):∃S d t,e=.returned (.pointer (some ⟨d.Q,0,none⟩))∧LW S w w' d t (fun _=>none) 1000000 []∧(d.z:Int)=z∧(d.n:Int)=held:=by
 obtain ⟨S,d,t,he,hl,h2⟩:=lw_po2 h
 exact ⟨S,d,t,he,hl.less (by omega),h2⟩
section
variable {S:Nat} {w0 w w' w1 w2:World} {d:PD} {t t' t1 t2:PSt ShS} {C C':Cu} {k k0 k1:Nat} {l l':List Spc} {s s':Spc} {T:Nat→Prop}
def AdL9 (S:Nat) (w0 w:World) (d:PD) (t:PSt ShS) (C:Cu) (k:Nat) (l:List Spc) (cf:Nat→Int) (pg rg ps:Nat) (e:Ending) (w':World):Prop:=
 ∃X Mm,e=.returned (.pointer (some ⟨X,0,none⟩))∧LW S w0 w' d t C k (⟨⟨X,Mm,d.Q,cf,pg,rg,ps⟩,none,0,[],fun _=>none,0⟩::l)∧SwN shP w w' d t t l (⟨⟨X,Mm,d.Q,cf,pg,rg,ps⟩,none,0,[],fun _=>none,0⟩::l)
theorem LW.add (h:LW S w0 w d t C k l) {cf:Nat→Int} {pg rg ps:Nat} (hD:(SpD.mk 0 0 d.Q cf pg rg ps).Ok) (hz:pg=d.z) (hl:l.length<1000):
 Calls Tryz.prog 15 #[cfgV cf,.pointer (some ⟨d.Q,0,none⟩)] w (AdL9 S w0 w d t C k l cf pg rg ps):=by
 refine (spNew_any w cf d.Q pg rg ps).mono ?_
 intro e w' hn
 obtain ⟨X,Mm,he,h1,h2,hb⟩:=h.sw.add hD hz hl hn
 exact ⟨X,Mm,he,h.go h1 h2,h2⟩
def FkL9 (S:Nat) (w0 w:World) (d:PD) (t:PSt ShS) (C:Cu) (k:Nat) (s:Spc) (l:List Spc) (e:Ending) (w':World):Prop:=
 ∃X Mm A' cap' t',e=.returned (.pointer (some ⟨X,0,none⟩))∧LW S w0 w' d t' (kpC C s.m) k (⟨⟨X,Mm,d.Q,s.D.cf,s.D.pg,s.D.rg,s.D.ps⟩,A',cap',s.L,s.m,s.n⟩::s::l)∧(∀x∈s::l,x.mem (kpC C s.m)=x.mem C)
theorem LW.fork (h:LW S w0 w d t C k (s::l)) (hr:RgOk s) (hn:s.n≤100000) (hl:l.length<900):
 Calls Tryz.prog 32 #[.pointer (some ⟨s.D.X,0,none⟩)] w (FkL9 S w0 w d t C k s l):=by
 refine (h.sw.fork hr hn hl).mono ?_
 rintro e w' ⟨X,Mm,A',cap',t',he,h1,h2,_,h3⟩
 exact ⟨X,Mm,A',cap',t',he,h.go h1 h2,h3⟩
end
theorem new_vin {w:World} {b:Nat} {Q:Nat→Prop} (h:∀q,Q q→q<w.heap.size) (hb:w.heap.size≤b) {w':World} (hw:b<w'.heap.size) {n c:Nat}:VIn (fun g=>g<w'.heap.size∧¬Q g) (.slice (some ⟨b,0,none⟩) n c):=fun b' o' n' c' e _=>by
 cases e
 exact ⟨hw,fun e=>by have:=h _ e;omega⟩
set_option maxHeartbeats 4000000 in
theorem known16_any (w:World):Calls Tryz.prog 12 #[] w fun e w'=>e=.returned (.bool true)∧Below w.heap.size w w':=by
 have HPO:Hid (∀V,Calls Tryz.prog 14 #[.agg #[.int .i64 0,.int .i64 0,.int .i64 0,.int .i64 0,.int .i64 16,.int .i64 0,.int .i64 2,.int .i64 3,.int .i64 8],.int .i64 4] V (PoPost V 16 4)):=hJ fun V=>pagerOf_any V cfK 4 (by decide) (by decide)
 go_enter Tryz.func12,Tryz.ntmps12
 go_wp2_with fail
 refine (HPO.out _).mono ?_
 intro e w2 hpo
 obtain ⟨S,d,t,rfl,hw,hz,hn⟩:=lw_po hpo
 obtain ⟨c0,c1,c2,c3,c4,c5,c6,c7,c8⟩:=cfg_cells hw.bel
 have HAD:=hJ (hw.add (cf:=cfK) (pg:=16) (rg:=3) (ps:=8) ⟨rfl,rfl,rfl,by first|decide|(simp;done)|(simp<;>omega),by first|decide|(simp;done)|(simp<;>omega),by first|decide|(simp;done)|(simp<;>omega)⟩ (by omega) (by simp))
 clear hpo hw
 go_wp2_with fail
 refine HAD.out.mono ?_
 rintro e w3 ⟨X,Mm,rfl,hw3,hb3⟩
 have HMP:=hJ (hw3.map1 rfl (a:=1) (n:=2) (by omega) (by omega) (by first|decide|(simp;done)|(simp<;>omega)))
 clear hw3 HAD
 go_wp2_with fail
 refine HMP.out.mono ?_
 rintro e w4 ⟨A4,cp4,rfl,hw4,_⟩
 have hok:=(hw4.sw.ss _ jM).ok
 have hb5:Below w4.heap.size w4 (w4.alloc (.cells #[.int .u8 97,.int .u8 98] 5 (2,3))):=jB.alloc jN _
 have HST:=hJ (((hw4.up hb5).less (k':=999990+2*2) (by omega)).store (bs:=[97,98]) (bc:=2) 17 (sby_row9 w4 #[.int .u8 97,.int .u8 98] [97,98] _ _ rfl) (by first|decide|(simp;done)|(simp<;>omega)) (by first|decide|(simp;done)|(simp<;>omega)) (new_vin (w:=w4) (fun q hq=>hw4.sw.lt hq) jN (by simp)) (check_one hok (by omega) (by first|decide|(simp;done)|(simp<;>omega)) (by first|decide|(simp;done)|(simp<;>omega)) (by first|decide|(simp;done)|(simp<;>omega)) (by first|decide|(simp;done)|(simp<;>omega)) (by first|decide|(simp;done)|(simp<;>omega))))
 have k5:=kc9 w4 #[.int .u8 97,.int .u8 98] 2 2
 clear hw4 hok hb5 HMP
 go_wp2_with fail
 refine HST.out.mono ?_
 rintro e w5 ⟨t5,C5,m5,n5,rfl,hw5,_,_,hst⟩
 have hdom:∀i,i∈([1]:List Int) ↔ (m5 i).isSome=true:=fun i=>by
  rw [hst.dom i,List.mem_singleton]
  constructor
  · rintro rfl
    exact .inr ⟨17,by omega,by simp,by simp⟩
  · rintro (h|⟨j,h1,h2,h3⟩)
    · cases h
    · simp at h2 h3
      omega
 have hn5:n5=1:=cnt_list (hw5.sw.ss _ jM).sp.mp (l:=[1]) (by simp) hdom
 have hm5:∀i id,m5 i=some id→i=1:=fun i id h=>by
  have:=(hdom i).2 (by rw [h];rfl)
  simpa using this
 have hfl:∀i,flatF 16 (memF 16 C5 m5) i=if 17≤i∧i<19 then ([97,98]:Bytes).getD (i-17) 0 else 0:=fun i=>by
  have h0:∀i,flatF 16 (memF 16 (fun _=>none) (fun _=>none)) i=0:=fun i=>by
   unfold flatF memF zeros
   simp only
   rw [List.getD_eq_getElem?_getD,List.getElem?_replicate]
   split<;>rfl
  have:=hst.flat i
  unfold Spc.mem at this
  simp only at this
  rw [this,h0]
  rfl
 have HN5:=hJ hn5
 have HF5:=hJ hfl
 have HFK:=hJ (hw5.fork ⟨right_one (by omega) (by omega) (by first|decide|(simp;done)|(simp<;>omega)),by first|decide|(simp;done)|(simp<;>omega),fun i id h=>by rw [hm5 i id h];rfl,fun i id h=>by rw [hm5 i id h];first|decide|(simp;done)|(simp<;>omega)⟩ (by simp only;omega) (by simp))
 clear hw5 hst HST k5 hdom hn5 hm5 hfl
 go_wp2_with fail
 refine HFK.out.mono ?_
 rintro e w6 ⟨X6,Mm6,A6,cp6,t6,rfl,hw6,hmem6⟩
 have HM6:=hJ (hmem6 _ jM)
 have hok:=(hw6.sw.ss _ jM).ok
 have hb7:Below w6.heap.size w6 (w6.alloc (.cells #[.int .u8 99] 5 (1,2))):=jB.alloc jN _
 have HST:=hJ (((hw6.up hb7).less (k':=999980+2*1) (by omega)).store (bs:=[99]) (bc:=1) 18 (sby_row9 w6 #[.int .u8 99] [99] _ _ rfl) (by decide) (by decide) (new_vin (w:=w6) (fun q hq=>hw6.sw.lt hq) jN (by simp)) (check_one hok (by omega) (by first|decide|(simp;done)|(simp<;>omega)) (by first|decide|(simp;done)|(simp<;>omega)) (by first|decide|(simp;done)|(simp<;>omega)) (by first|decide|(simp;done)|(simp<;>omega)) (by decide)))
 have k7:=kc9 w6 #[.int .u8 99] 1 1
 clear hw6 hok hb7 HFK hmem6
 go_wp2_with fail
 refine HST.out.mono ?_
 rintro e w7 ⟨t7,C7,m7,n7,rfl,hw7,_,hx7,hst7⟩
 have HM7:=hJ ((hx7 _ jM).trans HM6.out)
 have HF7:=hJ (fun i=>(hst7.flat i).trans (by rw [show Spc.mem ⟨⟨X6,Mm6,d.Q,cfK,16,3,8⟩,A6,cp6,[⟨1,1+2,3⟩],m5,n5⟩ (kpC C5 m5)=Spc.mem ⟨⟨X,Mm,d.Q,cfK,16,3,8⟩,A4,cp4,[⟨1,1+2,3⟩],m5,n5⟩ (kpC C5 m5) from rfl,HM6.out]))
 have hok:=(hw7.sw.ss _ (jP jM)).ok
 have HLD:=hJ (((hw7.perm (List.Perm.swap _ _ _)).less (k':=999970+4) (by omega)).load 16 (check_one hok (by omega) (by first|decide|(simp;done)|(simp<;>omega)) (by first|decide|(simp;done)|(simp<;>omega)) (by first|decide|(simp;done)|(simp<;>omega)) (by first|decide|(simp;done)|(simp<;>omega)) (by decide)))
 clear hw7 hx7 hst7 hok HST k7
 go_wp2_with fail
 refine HLD.out.mono ?_
 rintro e w8 ⟨t8,A8,cc8,rfl,hw8,_,ho8,hq8⟩
 have HO8:=hJ ho8
 have HQ8:=hJ hq8
 have hok:=(hw8.sw.ss _ (jP jM)).ok
 have HLD:=hJ (((hw8.perm (List.Perm.swap _ _ _)).less (k':=999960+4) (by omega)).load 16 (check_one hok (by omega) (by first|decide|(simp;done)|(simp<;>omega)) (by first|decide|(simp;done)|(simp<;>omega)) (by first|decide|(simp;done)|(simp<;>omega)) (by first|decide|(simp;done)|(simp<;>omega)) (by decide)))
 clear hw8 hok ho8 hq8
 go_wp2_with fail
 refine HLD.out.mono ?_
 rintro e w9 ⟨t9,A9,cc9,rfl,hw9,hn9,ho9,hq9⟩
 have hs8:=(HO8.out.off hn9.off (fun g hg e=>HQ8.out g hg ((swO_perm (List.Perm.swap _ _ _)).1 e))).part.2.2
 have hs9:=ho9.part.2.2
 have HS9:=hw9.sw.ss _ (jP jM)
 have r4:∀f:Nat→UInt8,rngF f 16 4=[f 16,f 17,f 18,f 19]:=fun f=>rfl
 have e8:rngF (flatF 16 (Spc.mem ⟨⟨X,Mm,d.Q,cfK,16,3,8⟩,A4,cp4,[⟨1,1+2,3⟩],m5,n5⟩ C7)) 16 4=[0,97,98,0]:=by
  rw [HM7.out,r4]
  unfold Spc.mem
  simp only
  rw [HF5.out,HF5.out,HF5.out,HF5.out]
  rfl
 have e9:rngF (flatF 16 (memF 16 C7 m7)) 16 4=[0,97,99,0]:=by
  rw [r4,HF7.out,HF7.out,HF7.out,HF7.out]
  unfold Spc.mem
  simp only
  rw [HF5.out,HF5.out,HF5.out,HF5.out]
  rfl
 have hs8':SBy w9 A8 4 [0,97,98,0]:=by rw [←e8];exact hs8
 have hs9':SBy w9 A9 4 [0,97,99,0]:=by rw [←e9];exact hs9
 have hstr8:(convert 24 9 (.slice A8 4 cc8)).run Tryz.prog w9=.ok (.string ⟨#[0,97,98,0]⟩) w9:=hs8'.str cc8
 have hstr9:(convert 24 9 (.slice A9 4 cc9)).run Tryz.prog w9=.ok (.string ⟨#[0,97,99,0]⟩) w9:=hs9'.str cc9
 have HWT:Hid (∀W,Below w9.heap.size w9 W→Calls Tryz.prog 25 #[.pointer (some ⟨X,0,none⟩)] W fun e w'=>e=.returned (.int .i64 2)∧Below w9.heap.size w9 w'):=hJ fun W hb=>by
  have hsp:=(hw9.sw.ss _ (jP jM)).sp.up hb
  refine (weight_b hsp (by simp) (by simp only;have:=HN5.out;omega)).mono ?_
  rintro e w' ⟨rfl,hb2⟩
  refine ⟨?_,hb.trans (hb2.mono hb.size)⟩
  simp only [List.length_singleton,HN5.out]
  rfl
 have HBE:Hid (∀W,Below w9.heap.size w9 W→Below w.heap.size w W):=hJ fun W hb=>by
  have h1:=hw9.bel
  have h2:=((Below.refl w.heap.size w).alloc jN (.cells #[.int .i64 0,.int .i64 0,.int .i64 0,.int .i64 0,.int .i64 16,.int .i64 0,.int .i64 2,.int .i64 3,.int .i64 8] 23))
  exact (h2.trans (h1.mono (by simp))).trans (hb.mono (by have:=h1.size;have:=h2.size;omega))
 clear hw9 hn9 ho9 hq9 hs8 hs9 hs8' hs9' HS9 HLD
 go_wp2_with (first|(go_at_call 25;(refine (HWT.out _ (by first|exact Below.refl _ _|exact jB.drew)).mono ?_);rintro e w10 ⟨rfl,hb10⟩;have HB10:=hJ hb10;clear hb10))
 all_goals
  go_ret
  exact ⟨rfl,HBE.out _ HB10.out⟩
end Go.Proofs.YtlhfjaagkgengaaGreat
