/- A region that draws its order, whose last operation waits for all others: the others in whatever order, S holding all the while; then the last one. The document's machine: a process apart, walked. -/
import Derived.Test.YtlhfjaagkgengaaGreatPC01
import Derived.Test.YtlhfjaagkgengaaGreatPC38
import Derived.OrdersHeld
namespace Go.Proofs.YtlhfjaagkgengaaGreat
set_option maxRecDepth 100000
set_option maxHeartbeats 8000000
open Go Go.RowKit
set_option linter.unusedVariables false
set_option linter.unusedSimpArgs false
section
variable {P:Program} {ops ops':Array Oper} {md:Region.Mode} {Q:Exit→Act→World→Prop} {S:World→Prop}
def SinkQ (P:Program) (ops:Array Oper) (Q:Exit→Act→World→Prop) (n:Nat):Exit→Act→World→Prop
 | .normal,a,w=>wpOp P ops Q n (fun a w=>Q .normal a w) a w
 |e,a,w=>Q e a w
def fwdB (md:Region.Mode) (ops:Array Oper) (n:Nat):Bool:=
 (List.range n).all fun i=>match ops[i]? with
  |some o=>o.guard.isNone && o.after.all (fun e=>!Region.binds md e||decide (e.on<i))
  |none=>false
def lastB (md:Region.Mode) (ops:Array Oper) (n:Nat):Bool:=
 decide (ops.size=n+1) && (List.range n).all (fun i=>(List.range (n+1)).any fun j=>decide (i<j) && Region.waitsFor md ops j i) && (match ops[n]? with
  |some o=>o.after.all (fun e=>!Region.binds md e||decide (e.on<n))
  |none=>false)
theorem fwdB_spec {n i:Nat} (h:fwdB md ops n=true) (hi:i<n):∃o,ops[i]? =some o∧o.guard=none∧∀e∈o.after,Region.binds md e=true→e.on<i:=by
 have:=List.all_eq_true.1 h i (List.mem_range.2 hi)
 split at this
 · rename_i o ho
   simp only [Bool.and_eq_true,Option.isNone_iff_eq_none] at this
   refine ⟨o,ho,this.1,fun e he hb=>?_⟩
   have h2:=Array.all_eq_true'.1 this.2 e he
   simp only [hb,Bool.not_true,Bool.false_or,decide_eq_true_eq] at h2
   exact h2
 · cases this
theorem lets_of {Q Q':Exit→Act→World→Prop} (h:∀e a w,e≠.normal→Q' e a w→Q e a w) (hl:LetsOut Q'):LetsOut Q:=by
 obtain ⟨a,w,h1⟩:=hl
 exact ⟨a,w,h _ a w (by simp) h1⟩
theorem oper_wp_of {o:Oper} {a:Act} {w:World} {K:Act→World→Prop} {Q Q':Exit→Act→World→Prop} (h:∀e a w,e≠.normal→Q' e a w→Q e a w) (hh:o.wp P a w K Q'):o.wp P a w K Q:=by
 unfold Oper.wp at *
 generalize (execOp a.eval o).run P w=r at *
 cases r with
 | ok n w' =>
   cases n <;>simp only [Oper.upon] at hh ⊢ <;>
    first
     |exact hh
     |exact Calls.mono hh (fun e w'' he=>by
      cases e<;>first|exact he|exact h _ _ _ (by simp) he|exact lets_of h he)
     |exact hh.elim
 |halt x w'=>cases x<;>simp only [Oper.upon] at hh ⊢ <;>first|exact h _ _ _ (by simp) hh|exact hh.elim
theorem wpOp_of {n i:Nat} {o:Oper} (ho:ops[i]? =some o) (ho':ops'[i]? =some o) (hg:o.guard=none) {K K':Act→World→Prop} {a:Act} {w:World} (hK:∀a w,K' a w→K a w)
 (h:wpOp P ops' (SinkQ P ops Q n) i K' a w):wpOp P ops Q i K a w:=by
 have hw:∀ys,Region.wanted o ys=true:=fun ys=>by simp [Region.wanted,hg]
 unfold wpOp at *
 simp only [ho,ho',hw,if_true] at *
 have hq:∀e a w,e≠.normal→SinkQ P ops Q n e a w→Q e a w:=fun e a w he h=>by
  cases e<;>first|exact absurd rfl he|exact h
 rcases h with h|⟨h1,h2⟩
 · exact .inl (oper_wp_of hq (Oper.wp_mono hK h))
 · exact .inr ⟨h1,lets_of hq h2⟩
def cntU (listed:Array Bool) (n:Nat):Nat:=((List.range n).filter fun i=>!listed.getD i true).length
theorem cntU_set {listed:Array Bool} {n i:Nat} (hi:i<n) (h:listed.getD i true=false):cntU (listed.setIfInBounds i true) n+1=cntU listed n:=by
 unfold cntU
 have key:∀m,(i<m→((List.range m).filter fun j=>!(listed.setIfInBounds i true).getD j true).length+1=((List.range m).filter fun j=>!listed.getD j true).length)∧(m≤i→((List.range m).filter fun j=>!(listed.setIfInBounds i true).getD j true).length=((List.range m).filter fun j=>!listed.getD j true).length):=by
  intro m
  induction m with
  |zero=>exact ⟨fun h=>by omega,fun _=>rfl⟩
  | succ m ih=>
    rw [List.range_succ,List.filter_append,List.filter_append,List.length_append,List.length_append]
    by_cases hm:i=m
    · subst hm
      have e1:(listed.setIfInBounds i true).getD i true=true:=by
       by_cases hs:i<listed.size
       · simp [hs]
       · simp [hs]
      refine ⟨fun _=>?_,fun h=>by omega⟩
      rw [ih.2 jN]
      simp only [List.filter_cons,List.filter_nil,e1,h]
      simp
    · rw [show [m].filter (fun j=>!(listed.setIfInBounds i true).getD j true)=[m].filter (fun j=>!listed.getD j true) by
       simp only [List.filter_cons,List.filter_nil];rw [getD_set_ne true hm]]
      exact ⟨fun h=>by have:=ih.1 (by omega);omega,fun h=>by have:=ih.2 (by omega);omega⟩
 exact (key n).1 hi
theorem cntU_zero {listed:Array Bool} {n i:Nat} (h:cntU listed n=0) (hi:i<n):listed.getD i true=true:=by
 unfold cntU at h
 rw [List.length_eq_zero_iff,List.filter_eq_nil_iff] at h
 have:=h i (List.mem_range.2 hi)
 simpa using this
theorem cntU_least {listed:Array Bool} {n:Nat} (h:0<cntU listed n):∃i,i<n∧listed.getD i true=false∧∀j,j<i→listed.getD j true=true:=by
 have hex:∃i,i<n∧listed.getD i true=false:=by
  apply Classical.byContradiction
  intro hne
  have:cntU listed n=0:=by
   unfold cntU
   rw [List.length_eq_zero_iff,List.filter_eq_nil_iff]
   intro i hi
   have h1:¬listed.getD i true=false:=fun e=>hne ⟨i,List.mem_range.1 hi,e⟩
   simpa using h1
  omega
 have key:∀m,(∃i,i<m∧i<n∧listed.getD i true=false)→∃i,i<n∧listed.getD i true=false∧∀j,j<i→listed.getD j true=true:=by
  intro m
  induction m with
  |zero=>rintro ⟨i,h,_⟩;omega
  | succ m ih=>
    rintro ⟨i,h1,h2,h3⟩
    by_cases hs:∃i,i<m∧i<n∧listed.getD i true=false
    · exact ih hs
    · have him:i=m:=by
       rcases Nat.lt_or_ge i m with h|h
       · exact absurd ⟨i,h,h2,h3⟩ hs
       · omega
      subst him
      refine ⟨i,h2,h3,fun j hj=>?_⟩
      have:¬listed.getD j true=false:=fun e=>hs ⟨j,hj,by omega,e⟩
      simpa using this
 obtain ⟨i,h1,h2⟩:=hex
 exact key (i+1) ⟨i,by omega,h1,h2⟩
theorem getD_ft {listed:Array Bool} {i:Nat} (hs:i<listed.size) (h:listed.getD i true=true):listed.getD i false=true:=by
 simp [hs] at h ⊢;exact h
theorem wpAny_sink {n:Nat} (hpre:∀i,i<n→ops[i]? =ops'[i]?) (hs2:ops'.size=n) (hfwd:fwdB md ops n=true) (hlast:lastB md ops n=true):
 ∀ (f:Nat) (listed listed':Array Bool) (a:Act) (w:World),listed.size=n+1→listed'.size=n→(∀i,i<n→listed.getD i true=listed'.getD i true)→listed.getD n true=false→cntU listed n=f→(∀j oj,j<n→ops[j]? =some oj→listed.getD j true=true→∀e∈oj.after,Region.binds md e=true→listed.getD e.on true=true)→
   wpAny P md ops' (SinkQ P ops Q n) f listed' a w→wpAny P md ops Q (f+1) listed a w:=by
 simp only [lastB,Bool.and_eq_true,decide_eq_true_eq] at hlast
 obtain ⟨⟨hs1,hw⟩,hl⟩:=hlast
 have hwait:∀i,i<n→∃j,i<j∧j≤n∧∃oj,ops[j]? =some oj∧∃e∈oj.after,Region.binds md e=true∧e.on=i:=fun i hi=>by
  obtain ⟨j,hj,hj2⟩:=List.any_eq_true.1 (List.all_eq_true.1 hw i (List.mem_range.2 hi))
  simp only [Bool.and_eq_true,decide_eq_true_eq] at hj2
  exact ⟨j,hj2.1,by have:=List.mem_range.1 hj;omega,Region.waitsFor_spec hj2.2⟩
 obtain ⟨on,hon⟩:∃on,ops[n]? =some on:=⟨ops[n]'(by omega),by simp [hs1]⟩
 have honf:∀e∈on.after,Region.binds md e=true→e.on<n:=by
  rw [hon] at hl
  simp only at hl
  intro e he hb
  have h2:=Array.all_eq_true'.1 hl e he
  simp only [hb,Bool.not_true,Bool.false_or,decide_eq_true_eq] at h2
  exact h2
 intro f
 induction f with
 | zero=>
   intro listed listed' a w z1 z2 hr hn hc hcl h
   have hall:∀i,i<n→listed.getD i true=true:=fun i hi=>cntU_zero hc hi
   have hnr:n∈Region.ready md ops listed:=mem_ready.2 ⟨hn,on,hon,fun e he hb=>getD_ft (by have:=honf e he hb;omega) (hall _ (honf e he hb))⟩
   refine ⟨fun h0=>(by rw [h0] at hnr;cases hnr),fun i hi=>?_⟩
   obtain ⟨hi1,oi,hoi,_⟩:=mem_ready.1 hi
   have hlt:i<n+1:=by have:=(Array.getElem?_eq_some_iff.1 hoi).1;omega
   have hin:i=n:=by
    rcases Nat.lt_or_ge i n with h|h
    · rw [hall i h] at hi1;cases hi1
    · omega
   subst hin
   refine wpOp_mono (fun a' w' hq=>?_) h.2
   refine ⟨?_,hq⟩
   rw [List.eq_nil_iff_forall_not_mem]
   intro j hj
   obtain ⟨hj1,oj,hoj,_⟩:=mem_ready.1 hj
   have hlt:j<i+1:=by have:=(Array.getElem?_eq_some_iff.1 hoj).1;omega
   by_cases hji:i=j
   · subst hji
     simp [z1] at hj1
   · rw [getD_set_ne true hji,hall j (by omega)] at hj1
     cases hj1
 | succ f ih =>
   intro listed listed' a w z1 z2 hr hn hc hcl h
   obtain ⟨i0,hi0,hu0,hl0⟩:=cntU_least (listed:=listed) (n:=n) (by omega)
   have hready : ∀i,i∈Region.ready md ops listed→i<n∧i∈Region.ready md ops' listed':=fun i hi=>by
    obtain ⟨hi1,oi,hoi,hal⟩:=mem_ready.1 hi
    have hlt:i<n+1:=by have:=(Array.getElem?_eq_some_iff.1 hoi).1;omega
    have hin:i<n:=by
     rcases Nat.lt_or_ge i n with h|h
     · exact h
     · have:i=n:=by omega
       subst this
       have hup:∀(k m:Nat),i-m=k→m<i→listed.getD m true=false→False:=by
        intro k
        induction k using Nat.strongRecOn with
        | _ k ihk=>
          intro m hk hm hum
          obtain ⟨j,hj1,hj2,oj,hoj,e,he,hb,heq⟩:=hwait m hm
          by_cases hji:j=i
          · subst hji
            rw [hoj] at hoi
            cases hoi
            have:=hal e he hb
            rw [heq] at this
            rw [getD_both hum] at this
            cases this
          · cases hl:listed.getD j true with
            | true=>
              have:=hcl j oj (by omega) hoj hl e he hb
              rw [heq,hum] at this
              cases this
            |false=>exact ihk (i-j) (by omega) j rfl (by omega) hl
       exact (hup (i-i0) i0 rfl hi0 hu0).elim
    refine ⟨hin,mem_ready.2 ⟨by rw [←hr i hin];exact hi1,oi,by rw [←hpre i hin];exact hoi,fun e he hb=>?_⟩⟩
    obtain ⟨o2,ho2,_,hf2⟩:=fwdB_spec hfwd hin
    rw [hoi] at ho2
    cases ho2
    have hlt2:=hf2 e he hb
    have h1:=hal e he hb
    have h2:listed.getD e.on true=true:=by
     cases hx:listed.getD e.on true with
     |true=>rfl
     |false=>rw [getD_both hx] at h1;cases h1
    rw [hr e.on (by omega)] at h2
    exact getD_ft (by omega) h2
   have hi0r:i0∈Region.ready md ops listed:=by
    obtain ⟨o,ho,_,hf⟩:=fwdB_spec hfwd hi0
    exact mem_ready.2 ⟨hu0,o,ho,fun e he hb=>getD_ft (by have:=hf e he hb;omega) (hl0 _ (hf e he hb))⟩
   refine ⟨fun h0=>(by rw [h0] at hi0r;cases hi0r),fun i hi=>?_⟩
   obtain ⟨hin,hi'⟩:=hready i hi
   obtain ⟨o,ho,hg,_⟩:=fwdB_spec hfwd hin
   have hiu:=(mem_ready.1 hi).1
   refine wpOp_of ho (by rw [←hpre i hin];exact ho) hg (fun a' w' h'=>?_) (h.2 i hi')
   refine ih (listed.setIfInBounds i true) (listed'.setIfInBounds i true) a' w' (by simpa using z1) (by simpa using z2) (fun j hj=>?_) ?_ (by have:=cntU_set hin hiu;omega) (fun j oj hj hoj hlj e he hb=>?_) h'
   · by_cases hij:i=j
     · subst hij
       simp [z1,z2,hin,show i<n+1 by omega]
     · rw [getD_set_ne true hij,getD_set_ne true hij]
       exact hr j hj
   · rw [getD_set_ne true (by omega)]
     exact hn
   · by_cases hie:i=e.on
     · rw [←hie]
       simp [z1,show i<n+1 by omega]
     · rw [getD_set_ne true hie]
       by_cases hij:i=j
       · subst hij
         obtain ⟨_,o3,ho3,hal3⟩:=mem_ready.1 hi
         rw [hoj] at ho3
         cases ho3
         have h1:=hal3 e he hb
         cases hx:listed.getD e.on true with
         |true=>rfl
         |false=>rw [getD_both hx] at h1;cases h1
       · rw [getD_set_ne true hij] at hlj
         exact hcl j oj hj hoj hlj e he hb
theorem sink_done {n:Nat} {o:Oper} {a:Act} {w:World} (ho:ops[n]? =some o)
 (h:∀K':Act→World→Prop,(∀a w,Q .normal a w→K' a w)→if Region.wanted o (yielded ops a.tmps)=true then Oper.wp P o a w K' Q else K' (a.put o.dst undef) w):SinkQ P ops Q n .normal a w:=wpOp_step ho h
theorem wp_region_sink {id:Nat} {a:Act} {w:World} {l:List Oper} (n:Nat) (hm:P.follows .mixedOrders=true) (hfwd:fwdB .any l.toArray n=true) (hlast:lastB .any l.toArray n=true) (hS:S w.drew)
 (h:S w.drew→wpAnyH P .any (l.take n).toArray (SinkQ P l.toArray Q n) S n (Array.replicate n false) a w.drew):(Code.region id l.toArray true).wp P Q a w:=by
 refine wp_region_any hm ?_
 have hsz:l.toArray.size=n+1:=by
  simp only [lastB,Bool.and_eq_true,decide_eq_true_eq] at hlast
  exact hlast.1.1
 rw [hsz]
 refine wpAny_sink (ops':=(l.take n).toArray) (fun i hi=>by simp [hi]) (by simp at hsz ⊢;omega) hfwd hlast n _ (Array.replicate n false) a _ (by simp) (by simp) (fun i hi=>by simp [hi,show i<n+1 by omega]) (by simp) ?_ (fun j oj hj _ hlj=>(by simp [show j<n+1 by omega] at hlj)) (wpAny_of_held _ _ _ _ (h hS))
 unfold cntU
 rw [List.filter_eq_self.2 (fun i hi=>by
  have:=List.mem_range.1 hi
  simp [show i<n+1 by omega])]
 simp
end
set_option maxRecDepth 100000
set_option maxHeartbeats 8000000
open Go.RowKit Go.Maps
structure TwC (w W:World) (bx:Nat) (lv:Value) (pX gL k1 k2:Nat) (pv:Value) (n:Nat) (bv:Value):Prop where
 b1:W.cell? ⟨bx,1,none⟩=some lv
 p1:W.cell? ⟨pX,1,none⟩=some pv
 r0:W.cell? ⟨gL,k1,none⟩=some (.int .i64 (n:Nat))
 r1:W.cell? ⟨gL,k2,none⟩=some bv
theorem TwC.at_ {w W W':World} {bx pX gL k1 k2 n:Nat} {lv pv bv:Value} {S:Nat→Prop} (h:TwC w W bx lv pX gL k1 k2 pv n bv) (ho:Off S W W') (h1:¬S bx) (h2:¬S pX) (h3:¬S gL):TwC w W' bx lv pX gL k1 k2 pv n bv:=
 ⟨(ho.cell (p:=⟨bx,1,none⟩) (lt_of_cell h.b1) h1).trans h.b1,(ho.cell (p:=⟨pX,1,none⟩) (lt_of_cell h.p1) h2).trans h.p1,(ho.cell (p:=⟨gL,k1,none⟩) (lt_of_cell h.r0) h3).trans h.r0,(ho.cell (p:=⟨gL,k2,none⟩) (lt_of_cell h.r1) h3).trans h.r1⟩
section
variable {w w':World} {p:MPr}
theorem maTwin_any {z:Nat} (hz:16≤z∧z≤4096) (hp:PrAt w z p) (hr:p.R.length≤1000) (hl:p.L.length≤100000):Calls Tryz.prog 89 #[.pointer (some ⟨p.X,0,none⟩)] w (TwPost w z p):=by
 have HP:=hJ hp
 have lP:=hp.ltX
 have c0:=hp.c0
 unfold MPr.rv at c0
 obtain ⟨A1,c1,w1,hw1,hf1⟩:∃(A1:Option Addr) (c1:Nat) (w1:World),(Builtin.append_ #[41,41] 41 #[.slice (some ⟨w.heap.size,0,none⟩) 0 0,.slice p.RA p.R.length p.Rc]).run Tryz.prog (w.alloc (.cells #[] 62))=.ok (.slice A1 p.R.length c1) w1∧FrE rgE w w1 (.slice A1 p.R.length c1) p.R:=by
  have hrr:=hp.rr
  unfold MPr.rv at hrr
  have hlit:=FrE.lit rgE w
  rcases hrr.cases with ⟨h1,h2,h3,h4⟩|⟨gR,h1⟩
  · rw [h1,h2,h3,h4]
    exact ⟨_,_,_,hlit.1.appN _,hlit⟩
  · have hM:=hrr.rg
    rw [h1] at hM ⊢
    obtain ⟨A1,c1,w1,h5,h6,_⟩:=hlit.app (M:=p.R) (c:=p.Rc) (hM.up (jB.alloc jN _)) (by simp;omega) 41
    rw [List.nil_append] at h5 h6
    exact ⟨A1,c1,w1,h5,h6⟩
 have HI0:Hid (TwI w (w1.alloc (.cells #[.slice A1 p.R.length c1,.slice none 0 0] 157)) z p 0 ⟨w1.heap.size,A1,c1,p.R,none,0,[]⟩):=hJ (by
  refine ⟨PrAt.new w1 z rfl (hf1.1.mono (Nat.zero_le _)),rfl,rfl,hf1.2.trans ((jB.alloc jN _).mono hf1.2.size),fun q hq=>?_⟩
  rcases hq with e|e|e|⟨y,hy,_⟩
  · rw [e];exact hf1.2.size
  · exact (hf1.1.lt e).1
  · cases e
  · cases hy)
 have lb:w1.heap.size<(w1.alloc (.cells #[.slice A1 p.R.length c1,.slice none 0 0] 157)).heap.size:=by simp
 clear hp hf1
 go_enter Tryz.func89,Tryz.ntmps89
 go_wp2_with (at_builtin;go_must (refine wpList_append_run rfl (.tmp 5) (.tmp 9) 41 rfl _ _ rfl rfl hw1 ?_))
 generalize w1.alloc (.cells #[.slice A1 p.R.length c1,.slice none 0 0] 157)=wa at *
 obtain ⟨bx,hbx⟩:∃bx,w1.heap.size=bx:=⟨_,rfl⟩
 rw [hbx] at HI0 lb ⊢
 clear hw1 hbx c0
 go_loopw [4] (fun i wr=>∃(j:Nat) (p':MPr),j≤p.L.length∧i=.int .i64 (j:Nat)∧p'.X=bx∧TwI w wr z p j p') (fun i _=>p.L.length-(intOf i).toNat)
 case atStart=>exact ⟨0,_,Nat.zero_le _,rfl,rfl,HI0.out⟩
 case round=>
  obtain ⟨j,p',hj,rfl,hX,hI⟩:=hrel
  have HI:=hJ hI
  have hb:=hI.bel
  have lPr:p.X<wr.heap.size:=Nat.lt_of_lt_of_le lP hb.size
  have p1:=(hb.cell (p:=⟨p.X,1,none⟩) lP).trans HP.out.c1
  unfold MPr.lv at p1
  by_cases hlt:j<p.L.length
  · obtain ⟨x,hx⟩:∃x,p.L[j]? =some x:=⟨_,jE hlt⟩
    have HX:=hJ hx
    have hxl:=HP.out.len (jG hx)
    obtain ⟨gL,oL,hA,hgL,hcL⟩:=HP.out.pg.at_ (by omega)
    have r0:=hcL j x hx 0 _ rfl
    have r1:=hcL j x hx 1 _ rfl
    change w.cell? ⟨gL,oL+j*2+0,none⟩=some (.int .i64 (x.n:Nat)) at r0
    change w.cell? ⟨gL,oL+j*2+1,none⟩=some (.slice (some ⟨x.g,0,none⟩) x.b.length x.c) at r1
    rw [Nat.add_zero] at r0
    rw [hxl] at r1
    rw [hA] at p1
    have HXB:=hJ ((HP.out.bys x (jG hx)))
    have lgr:gL<wr.heap.size:=Nat.lt_of_lt_of_le hgL hb.size
    have hjI:(j:Int)<(p.L.length:Int):=by omega
    have hlen:=hI.len (by omega)
    have b1:=hI.at_.c1
    have fb:=hI.at_.fz 1
    rw [hX] at b1 fb
    have hlvs:p'.lv=.slice p'.LA j p'.Lc:=by unfold MPr.lv;rw [hlen]
    have lbr:bx<wr.heap.size:=by rw [←hX];exact hI.at_.ltX
    have HC0:Hid (TwC w wr bx p'.lv p.X gL (oL+j*2) (oL+j*2+1) (.slice (some ⟨gL,oL,none⟩) p.L.length p.Lc) x.n (.slice (some ⟨x.g,0,none⟩) z x.c)):=hJ ⟨b1,p1,(hb.cell (p:=⟨gL,_,none⟩) hgL).trans r0,(hb.cell (p:=⟨gL,_,none⟩) hgL).trans r1⟩
    have hbl:Below wr.heap.size wr (wr.alloc (.cells #[] 5)).drew:=(jB.alloc jN _).drew
    have hlitb:OwB wr.heap.size (wr.alloc (.cells #[] 5)).drew (.slice (some ⟨wr.heap.size,0,none⟩) 0 0) []:=(OwB.lit wr jN).up2
    have hsrc:SBy (wr.alloc (.cells #[] 5)).drew (some ⟨x.g,0,none⟩) z x.b:=by
     have:=(HXB.out.part).2.2
     rw [hxl] at this
     exact this.up (hb.trans (hbl.mono hb.size))
    obtain ⟨vB,w2,hrB,hoB,hgB,_⟩:=run_app (A:=some ⟨x.g,0,none⟩) (c:=x.c) hlitb hsrc hbl.size (by simp;omega) 24
    rw [List.nil_append] at hoB
    obtain ⟨AB,cB,rfl,_,_,hsB,hoff⟩:=hoB.form
    rw [hxl] at hsB
    obtain ⟨g,o,rfl,hgw,_⟩:=hsB.2 (by omega)
    obtain ⟨hgg,_,rfl⟩:=hoff g o rfl
    rw [hxl] at hrB hoB
    have hb2:Below wr.heap.size wr w2:=hbl.trans ((grown_off hgB).below (fun k e=>by cases e;exact Nat.le_refl _) hbl.size)
    have hbY:Below w2.heap.size w2 (w2.alloc (.cells #[.int .i64 (x.n:Nat),.slice (some ⟨g,0,none⟩) z cB] 154)):=jB.alloc jN _
    have hE:EAt pgE (w2.alloc (.cells #[.int .i64 (x.n:Nat),.slice (some ⟨g,0,none⟩) z cB] 154)) (some ⟨w2.heap.size,0,none⟩) [⟨x.n,g,cB,x.b⟩]:=by
     have h:=EAt.one pgE w2 ⟨x.n,g,cB,x.b⟩ 154
     have e:(pgE.cells ⟨x.n,g,cB,x.b⟩).toArray=#[.int .i64 (x.n:Nat),.slice (some ⟨g,0,none⟩) z cB]:=by
      show #[Value.int .i64 (x.n:Nat),.slice (some ⟨g,0,none⟩) x.b.length cB]=_
      rw [hxl]
     rw [e] at h
     exact h
    obtain ⟨A3,c3,w3,hr3,h3,ho3,ha3⟩:=(((hI.at_.up hb2).up hbY).lr).push (Nat.zero_le _) (g:=w2.heap.size) (c:=1) ⟨x.n,g,cB,x.b⟩ hE (by omega) 155
    rw [hlen] at hr3 h3 ha3
    have ho23:Off (fun k=>p'.lv.ownBlock=some k) w2 w3:=(Off.of_below hbY).trans ho3
    have h3g:∀k,(Value.slice A3 (j+1) c3).ownBlock=some k→w.heap.size≤k:=fun k e=>by
     rcases ha3 with e2|e2
     · rw [e2] at e
       exact hI.own k (.inr (.inr (.inl e)))
     · rw [e2] at e
       cases e
       have:=hbY.size
       have:=hb2.size
       have:=hb.size
       omega
    have HST:=hJ (hI.step HP.out hx hb2 hoB hgg h3 h3g ho23)
    rw [hX] at HST
    have nb:∀q,p'.lv.ownBlock=some q→q≠bx:=fun q e=>by rw [←hX];exact hI.at_.ne_lX e
    have ng:∀q,p'.lv.ownBlock=some q→w.heap.size≤q:=fun q e=>hI.own q (.inr (.inr (.inl e)))
    have HC2:=hJ (HC0.out.at_ (S:=fun _=>False) (Off.of_below hb2) id id id)
    have HC3:=hJ (HC2.out.at_ ho23 (fun e=>nb _ e rfl) (fun e=>by have:=ng _ e;omega) (fun e=>by have:=ng _ e;omega))
    have fb3:w3.frozen? ⟨bx,1,none⟩=false:=((ho23.frozen (p:=⟨bx,1,none⟩) (lt_of_cell HC2.out.b1) (fun e=>nb _ e rfl)).trans (hb2.frozen (p:=⟨bx,1,none⟩) lbr)).trans fb
    have l2:bx<w2.heap.size∧p.X<w2.heap.size∧gL<w2.heap.size:=⟨lt_of_cell HC2.out.b1,lt_of_cell HC2.out.p1,lt_of_cell HC2.out.r0⟩
    obtain ⟨l21,l22,l23⟩:=l2
    have l31:=lt_of_cell HC3.out.b1
    have l32:=lt_of_cell HC3.out.p1
    have l33:=lt_of_cell HC3.out.r0
    obtain ⟨b13,p13,r03,r13⟩:=HC3.out
    have p11:=HC0.out.p1
    have tw:∀{V:World},TwC w V bx p'.lv p.X gL (oL+j*2) (oL+j*2+1) (.slice (some ⟨gL,oL,none⟩) p.L.length p.Lc) x.n (.slice (some ⟨x.g,0,none⟩) z x.c)→V.cell? ⟨bx,1,none⟩=some (.slice p'.LA j p'.Lc)∧V.cell? ⟨p.X,1,none⟩=some (.slice (some ⟨gL,oL,none⟩) p.L.length p.Lc)∧V.cell? ⟨gL,oL+j*2,none⟩=some (.int .i64 (x.n:Nat))∧V.cell? ⟨gL,oL+j*2+1,none⟩=some (.slice (some ⟨x.g,0,none⟩) z x.c):=fun h=>by
     have h1:=h.b1
     rw [hlvs] at h1
     exact ⟨h1,h.p1,h.r0,h.r1⟩
    have HS0:=hJ (tw HC0.out)
    have HSA:=hJ (tw (HC0.out.at_ (S:=fun _=>False) (Off.of_below hbl) id id id))
    have HSB:=hJ (tw HC2.out)
    have HSC:=hJ (tw (HC2.out.at_ (S:=fun _=>False) (Off.of_below hbY) id id id))
    have HSD:=hJ (tw HC3.out)
    clear tw
    have FB:=hJ fb
    clear hI hb hx hA hcL r0 r1 p1 b1 hbl hlitb hsrc hoB hgB hsB hoff hb2 hbY hE h3 ho3 ha3 ho23 h3g nb ng hgw hgg hxl hgL fb
    rw [hlvs] at b13 hr3
    go_upto_region 5 with (fail)
    refine wp_region_sink (S:=fun V=>V.cell? ⟨bx,1,none⟩=some (.slice p'.LA j p'.Lc)∧V.cell? ⟨p.X,1,none⟩=some (.slice (some ⟨gL,oL,none⟩) p.L.length p.Lc)∧V.cell? ⟨gL,oL+j*2,none⟩=some (.int .i64 (x.n:Nat))∧V.cell? ⟨gL,oL+j*2+1,none⟩=some (.slice (some ⟨x.g,0,none⟩) z x.c)) 28 (by kernel_rfl) (by kernel_rfl) (by kernel_rfl) (HS0.out) (fun hHeld=>?_)
    simp only [List.take_succ_cons,List.take_zero,Array.replicate]
    refine wpAnyH_take (i:=0) (v:= ?_) rfl (by kernel_rfl) (by kernel_rfl) (by kernel_rfl) (fun _ _ _ h=>h) (Or.inl ⟨by rfl,?_⟩) (by assumption) ?_
    rotate_left
    · intro w hSw
      try dsimp only at hSw
      first|(go_simp;done)|(go_simp;with_reducible rfl)
    try simp only [Act.put,List.setIfInBounds_toArray,List.set_cons_zero,List.set_cons_succ]
    refine wpAnyH_take (i:=1) (v:= ?_) rfl (by kernel_rfl) (by kernel_rfl) (by kernel_rfl) (fun _ _ _ h=>h) (Or.inl ⟨by rfl,?_⟩) (by assumption) ?_
    rotate_left
    · intro w hSw
      try dsimp only at hSw
      first|(go_simp;done)|(go_simp;with_reducible rfl)
    try simp only [Act.put,List.setIfInBounds_toArray,List.set_cons_zero,List.set_cons_succ]
    refine wpAnyH_take (i:=2) (v:= ?_) rfl (by kernel_rfl) (by kernel_rfl) (by kernel_rfl) (fun _ _ _ h=>h) (Or.inl ⟨by rfl,?_⟩) (by assumption) ?_
    rotate_left
    · intro w hSw
      try dsimp only at hSw
      first|(go_simp;done)|(go_simp;with_reducible rfl)
    try simp only [Act.put,List.setIfInBounds_toArray,List.set_cons_zero,List.set_cons_succ]
    refine wpAnyH_take (i:=3) (v:= ?_) rfl (by kernel_rfl) (by kernel_rfl) (by kernel_rfl) (fun _ _ _ h=>h) (Or.inl ⟨by rfl,?_⟩) (by assumption) ?_
    rotate_left
    · intro w hSw
      try dsimp only at hSw
      first|(go_simp;done)|(go_simp;with_reducible rfl)
    try simp only [Act.put,List.setIfInBounds_toArray,List.set_cons_zero,List.set_cons_succ]
    refine wpAnyH_take (i:=4) (v:= ?_) rfl (by kernel_rfl) (by kernel_rfl) (by kernel_rfl) (fun _ _ _ h=>h) (Or.inl ⟨by rfl,?_⟩) (by assumption) ?_
    rotate_left
    · intro w hSw
      try dsimp only at hSw
      first|(go_simp;done)|(go_simp;with_reducible rfl)
    try simp only [Act.put,List.setIfInBounds_toArray,List.set_cons_zero,List.set_cons_succ]
    refine wpAnyH_take (i:=5) (v:= ?_) rfl (by kernel_rfl) (by kernel_rfl) (by kernel_rfl) (fun _ _ _ h=>h) (Or.inl ⟨by rfl,?_⟩) (by assumption) ?_
    rotate_left
    · intro w hSw
      try dsimp only at hSw
      first|(go_simp;done)|(go_simp;with_reducible rfl)
    try simp only [Act.put,List.setIfInBounds_toArray,List.set_cons_zero,List.set_cons_succ]
    refine wpAnyH_take (i:=6) (v:= ?_) rfl (by kernel_rfl) (by kernel_rfl) (by kernel_rfl) (fun _ _ _ h=>h) (Or.inl ⟨by rfl,?_⟩) (by assumption) ?_
    rotate_left
    · intro w hSw
      try dsimp only at hSw
      first|(go_simp;done)|(go_simp;with_reducible rfl)
    try simp only [Act.put,List.setIfInBounds_toArray,List.set_cons_zero,List.set_cons_succ]
    refine wpAnyH_take (i:=7) (v:= ?_) rfl (by kernel_rfl) (by kernel_rfl) (by kernel_rfl) (fun _ _ _ h=>h) (Or.inl ⟨by rfl,?_⟩) (by assumption) ?_
    rotate_left
    · intro w hSw
      try dsimp only at hSw
      first|(go_simp;done)|(go_simp;with_reducible rfl)
    try simp only [Act.put,List.setIfInBounds_toArray,List.set_cons_zero,List.set_cons_succ]
    refine wpAnyH_take (i:=8) (v:= ?_) rfl (by kernel_rfl) (by kernel_rfl) (by kernel_rfl) (fun _ _ _ h=>h) (Or.inl ⟨by rfl,?_⟩) (by assumption) ?_
    rotate_left
    · intro w hSw
      try dsimp only at hSw
      first|(go_simp;done)|(go_simp;with_reducible rfl)
    try simp only [Act.put,List.setIfInBounds_toArray,List.set_cons_zero,List.set_cons_succ]
    refine wpAnyH_take (i:=9) (v:= ?_) rfl (by kernel_rfl) (by kernel_rfl) (by kernel_rfl) (fun _ _ _ h=>h) (Or.inl ⟨by rfl,?_⟩) (by assumption) ?_
    rotate_left
    · intro w hSw
      try dsimp only at hSw
      first|(go_simp;done)|(go_simp;with_reducible rfl)
    try simp only [Act.put,List.setIfInBounds_toArray,List.set_cons_zero,List.set_cons_succ]
    refine wpAnyH_take (i:=10) (v:= ?_) rfl (by kernel_rfl) (by kernel_rfl) (by kernel_rfl) (fun _ _ _ h=>h) (Or.inl ⟨by rfl,?_⟩) (by assumption) ?_
    rotate_left
    · intro w hSw
      try dsimp only at hSw
      first|(go_simp;done)|(go_simp;with_reducible rfl)
    try simp only [Act.put,List.setIfInBounds_toArray,List.set_cons_zero,List.set_cons_succ]
    refine wpAnyH_take (i:=11) (v:= ?_) rfl (by kernel_rfl) (by kernel_rfl) (by kernel_rfl) (fun _ _ _ h=>h) (Or.inl ⟨by rfl,?_⟩) (by assumption) ?_
    rotate_left
    · intro w hSw
      try dsimp only at hSw
      first|(go_simp;done)|(go_simp;with_reducible rfl)
    try simp only [Act.put,List.setIfInBounds_toArray,List.set_cons_zero,List.set_cons_succ]
    refine wpAnyH_take (i:=12) (v:= ?_) rfl (by kernel_rfl) (by kernel_rfl) (by kernel_rfl) (fun _ _ _ h=>h) (Or.inl ⟨by rfl,?_⟩) (by assumption) ?_
    rotate_left
    · intro w hSw
      try dsimp only at hSw
      first|(go_simp;done)|(go_simp;with_reducible rfl)
    try simp only [Act.put,List.setIfInBounds_toArray,List.set_cons_zero,List.set_cons_succ]
    refine wpAnyH_take (i:=14) (v:= ?_) rfl (by kernel_rfl) (by kernel_rfl) (by kernel_rfl) (fun _ _ _ h=>h) (Or.inl ⟨by rfl,?_⟩) (by assumption) ?_
    rotate_left
    · intro w hSw
      try dsimp only at hSw
      first|(go_simp;done)|(go_simp;with_reducible rfl)
    try simp only [Act.put,List.setIfInBounds_toArray,List.set_cons_zero,List.set_cons_succ]
    refine wpAnyH_take (i:=15) (v:= ?_) rfl (by kernel_rfl) (by kernel_rfl) (by kernel_rfl) (fun _ _ _ h=>h) (Or.inl ⟨by rfl,?_⟩) (by assumption) ?_
    rotate_left
    · intro w hSw
      try dsimp only at hSw
      first|(go_simp;done)|(go_simp;with_reducible rfl)
    try simp only [Act.put,List.setIfInBounds_toArray,List.set_cons_zero,List.set_cons_succ]
    refine wpAnyH_take (i:=16) (v:= ?_) rfl (by kernel_rfl) (by kernel_rfl) (by kernel_rfl) (fun _ _ _ h=>h) (Or.inl ⟨by rfl,?_⟩) (by assumption) ?_
    rotate_left
    · intro w hSw
      try dsimp only at hSw
      first|(go_simp;done)|(go_simp;with_reducible rfl)
    try simp only [Act.put,List.setIfInBounds_toArray,List.set_cons_zero,List.set_cons_succ]
    refine wpAnyH_take (i:=17) (v:= ?_) rfl (by kernel_rfl) (by kernel_rfl) (by kernel_rfl) (fun _ _ _ h=>h) (Or.inl ⟨by rfl,?_⟩) (by assumption) ?_
    rotate_left
    · intro w hSw
      try dsimp only at hSw
      first|(go_simp;done)|(go_simp;with_reducible rfl)
    try simp only [Act.put,List.setIfInBounds_toArray,List.set_cons_zero,List.set_cons_succ]
    refine wpAnyH_take (i:=18) (v:= ?_) rfl (by kernel_rfl) (by kernel_rfl) (by kernel_rfl) (fun _ _ _ h=>h) (Or.inl ⟨by rfl,?_⟩) (by assumption) ?_
    rotate_left
    · intro w hSw
      try dsimp only at hSw
      first|(go_simp;done)|(go_simp;with_reducible rfl)
    try simp only [Act.put,List.setIfInBounds_toArray,List.set_cons_zero,List.set_cons_succ]
    refine wpAnyH_take (i:=19) (v:= ?_) rfl (by kernel_rfl) (by kernel_rfl) (by kernel_rfl) (fun _ _ _ h=>h) (Or.inl ⟨by rfl,?_⟩) (by assumption) ?_
    rotate_left
    · intro w hSw
      try dsimp only at hSw
      first|(go_simp;done)|(go_simp;with_reducible rfl)
    try simp only [Act.put,List.setIfInBounds_toArray,List.set_cons_zero,List.set_cons_succ]
    refine wpAnyH_take (i:=20) (v:= ?_) rfl (by kernel_rfl) (by kernel_rfl) (by kernel_rfl) (fun _ _ _ h=>h) (Or.inl ⟨by rfl,?_⟩) (by assumption) ?_
    rotate_left
    · intro w hSw
      try dsimp only at hSw
      first|(go_simp;done)|(go_simp;with_reducible rfl)
    try simp only [Act.put,List.setIfInBounds_toArray,List.set_cons_zero,List.set_cons_succ]
    refine wpAnyH_take (i:=21) (v:= ?_) rfl (by kernel_rfl) (by kernel_rfl) (by kernel_rfl) (fun _ _ _ h=>h) (Or.inl ⟨by rfl,?_⟩) (by assumption) ?_
    rotate_left
    · intro w hSw
      try dsimp only at hSw
      first|(go_simp;done)|(go_simp;with_reducible rfl)
    try simp only [Act.put,List.setIfInBounds_toArray,List.set_cons_zero,List.set_cons_succ]
    refine wpAnyH_ready (rs:=[13]) (by kernel_rfl) (by simp) ?_
    refine AllReadyH.cons (o:=_) rfl (fun K hK=>?_) AllReadyH.nil
    go_simp
    refine hK.out _ _ (HSA.out) (fun hHeld=>?_)
    clear hK K
    try simp only [Act.put,List.setIfInBounds_toArray,List.set_cons_zero,List.set_cons_succ]
    refine wpAnyH_ready (rs:=[22]) (by kernel_rfl) (by simp) ?_
    refine AllReadyH.cons (o:=_) rfl (fun K hK=>?_) AllReadyH.nil
    (refine step_append_any rfl (.tmp 35) (.tmp 43) 24 24 rfl _ _ rfl rfl hrB ?_)
    refine hK.out _ _ (HSB.out) (fun hHeld=>?_)
    clear hK K
    try simp only [Act.put,List.setIfInBounds_toArray,List.set_cons_zero,List.set_cons_succ]
    refine wpAnyH_take (i:=23) (v:= ?_) rfl (by kernel_rfl) (by kernel_rfl) (by kernel_rfl) (fun _ _ _ h=>h) (Or.inl ⟨by rfl,?_⟩) (by assumption) ?_
    rotate_left
    · intro w hSw
      try dsimp only at hSw
      first|(go_simp;done)|(go_simp;with_reducible rfl)
    try simp only [Act.put,List.setIfInBounds_toArray,List.set_cons_zero,List.set_cons_succ]
    refine wpAnyH_ready (rs:=[24]) (by kernel_rfl) (by simp) ?_
    refine AllReadyH.cons (o:=_) rfl (fun K hK=>?_) AllReadyH.nil
    go_simp
    refine hK.out _ _ (HSC.out) (fun hHeld=>?_)
    clear hK K
    try simp only [Act.put,List.setIfInBounds_toArray,List.set_cons_zero,List.set_cons_succ]
    refine wpAnyH_ready (rs:=[25]) (by kernel_rfl) (by simp) ?_
    refine AllReadyH.cons (o:=_) rfl (fun K hK=>?_) AllReadyH.nil
    (refine step_append_any rfl (.tmp 26) (.tmp 46) 155 155 rfl _ _ rfl rfl hr3 ?_)
    refine hK.out _ _ (HSD.out) (fun hHeld=>?_)
    clear hK K
    try simp only [Act.put,List.setIfInBounds_toArray,List.set_cons_zero,List.set_cons_succ]
    refine wpAnyH_take (i:=26) (v:= ?_) rfl (by kernel_rfl) (by kernel_rfl) (by kernel_rfl) (fun _ _ _ h=>h) (Or.inl ⟨by rfl,?_⟩) (by assumption) ?_
    rotate_left
    · intro w hSw
      try dsimp only at hSw
      first|(go_simp;done)|(go_simp;with_reducible rfl)
    try simp only [Act.put,List.setIfInBounds_toArray,List.set_cons_zero,List.set_cons_succ]
    refine wpAnyH_take (i:=27) (v:= ?_) rfl (by kernel_rfl) (by kernel_rfl) (by kernel_rfl) (fun _ _ _ h=>h) (Or.inl ⟨by rfl,?_⟩) (by assumption) ?_
    rotate_left
    · intro w hSw
      try dsimp only at hSw
      first|(go_simp;done)|(go_simp;with_reducible rfl)
    try simp only [Act.put,List.setIfInBounds_toArray,List.set_cons_zero,List.set_cons_succ]
    refine wpAnyH_done (by kernel_rfl) ?_ _
    refine sink_done (o:=_) rfl (fun K hK=>?_)
    go_simp
    refine hK _ _ ?_
    go_wp2
    go_roundw
    case rel=>exact ⟨j+1,p'.push A3 c3 ⟨x.n,g,cB,x.b⟩,hlt,by go_num,hX,HST.out⟩
    case measure=>simp [intOf];omega
  · obtain rfl:j=p.L.length:=by omega
    have hii:¬(p.L.length:Int)<(p.L.length:Int):=by omega
    have HG:Hid (TwPost w z p (.returned (.pointer (some ⟨bx,0,none⟩))) wr):=hJ ⟨p',by rw [hX],HI.out.at_,by
     have h1:=HI.out.R
     have h2:=HI.out.L
     rw [List.take_length] at h2
     unfold MPr.pl
     rw [h1]
     congr 1,HI.out.bel,HI.out.own⟩
    clear hI hb
    go_wp2
    go_ret
    exact HG.out
end
end Go.Proofs.YtlhfjaagkgengaaGreat
