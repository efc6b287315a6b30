/- A region that draws its order: first operations that are quiet in a class of worlds (loads, calls that leave a world of the class), then one operation of whatever kind (a call that writes), then moves -/
import Derived.Test.YtlhfjaagkgengaaGreatPC00
import Derived.StillTail
import Derived.Deep.Quiet
import Derived.Deep.CutRange
import Derived.Deep.MidRow
import Derived.Deep.RegionLaw
import Derived.Deep.CutBlock
namespace Go.Proofs.YtlhfjaagkgengaaGreat
set_option maxRecDepth 100000
open Go Go.RowKit
set_option linter.unusedVariables false
set_option linter.unusedSimpArgs false
section
variable {P:Program} {ops:Array Oper} {md:Region.Mode} {C:World→Prop}
def pureB (o:Oper):Bool:=o.guard.isNone && match o.op with
 | .move _=>true
 | .assign _=>true
 | .extract _ _=>true
 |_=>false
theorem pure_run {o:Oper} (hp:pureB o=true) (P:Program) (a:Act) (w:World):(∃v,(execOp a.eval o).run P w=.ok (.value v) w)∨∃s,(execOp a.eval o).run P w=.halt (.stuck s) w:=by
 unfold pureB at hp
 simp only [Bool.and_eq_true] at hp
 obtain ⟨_,hp⟩:=hp
 cases ho:o.op<;>rw [ho] at hp<;>simp only [Bool.false_eq_true] at hp
 case move x=>exact .inl ⟨a.eval x,by unfold execOp;rw [ho];rfl⟩
 case assign x=>exact .inl ⟨a.eval x,by unfold execOp;rw [ho];rfl⟩
 case extract t i=>
  cases ht:a.eval t
  case tuple vs=>
   cases hv:vs[i]? with
   |some v=>exact .inl ⟨v,by unfold execOp;rw [ho];simp only;rw [ht];unfold Instr.extract;simp only;rw [hv];rfl⟩
   |none=>exact .inr ⟨_,by unfold execOp;rw [ho];simp only;rw [ht];unfold Instr.extract;simp only;rw [hv];rfl⟩
  all_goals exact .inr ⟨_,by unfold execOp;rw [ho];simp only;rw [ht];rfl⟩
theorem pure_asks {o:Oper} (hp:pureB o=true) (P:Program) (a:Act) (w:World):¬o.asks P a w:=by
 unfold pureB at hp
 simp only [Bool.and_eq_true] at hp
 obtain ⟨_,hp⟩:=hp
 rintro ⟨h,_⟩
 have e:((execOp a.eval o).runT P w #[]).2=#[]:=by
  cases ho:o.op<;>rw [ho] at hp<;>simp only [Bool.false_eq_true] at hp
  case move x=>unfold execOp;rw [ho];rfl
  case assign x=>unfold execOp;rw [ho];rfl
  case extract t i=>
   cases ht:a.eval t
   case tuple vs=>
    cases hv:vs[i]? with
    |some v=>unfold execOp;rw [ho];simp only;rw [ht];unfold Instr.extract;simp only;rw [hv];rfl
    |none=>unfold execOp;rw [ho];simp only;rw [ht];unfold Instr.extract;simp only;rw [hv];rfl
   all_goals (unfold execOp;rw [ho];simp only;rw [ht];rfl)
 rw [e] at h
 simp at h
theorem still_of_list {Q:Exit→Act→World→Prop}:∀(l:List Oper) (a:Act) (w:World),l.all pureB=true→wpList P ops Q l a w→wpStill P ops w (fun a'=>Q .normal a' w) l a
 |[],a,w,_,h=>h
 | o ::l,a,w,hp,h=>by
   simp only [List.all_cons,Bool.and_eq_true] at hp
   have hg:o.guard=none:=by
    have:=hp.1
    unfold pureB at this
    simp only [Bool.and_eq_true,Option.isNone_iff_eq_none] at this
    exact this.1
   have hw:Region.wanted o (yielded ops a.tmps)=true:=by simp [Region.wanted,hg]
   unfold wpList at h
   unfold wpStill
   rw [if_pos hw] at h ⊢
   rcases h with h|h
   · unfold Oper.wp at h
     unfold Oper.still
     rcases pure_run hp.1 P a w with ⟨v,hr⟩|⟨s,hr⟩
     · rw [hr] at h ⊢
       rw [Oper.stillUpon_value]
       exact still_of_list l _ w hp.2 h
     · rw [hr] at h
       exact h.elim
   · exact absurd h.1 (pure_asks hp.1 P a w)
def chainB2 (md:Region.Mode) (ops:Array Oper) (n:Nat):Bool:=
 (List.range ops.size).all fun t=>decide (t≤n)||(List.range t).any fun s=>decide (n≤s) && Region.waitsFor md ops t s
theorem tail_waits2 {n:Nat} {listed:Array Bool} (hs:Region.sinkB md ops n=true) (hc:chainB2 md ops n=true) (hn:n<ops.size) (inv:HeadInv md ops n listed):
 ∀(d i:Nat),n-i=d→i<n→listed.getD i true=false→∀t,n≤t→t ∉ Region.ready md ops listed:=by
 intro d
 induction d using Nat.strongRecOn with
 | _ d ih=>
   intro i hd hi hun t ht hr
   obtain ⟨_,ot,hot,hall⟩:=mem_ready.1 hr
   have htlt:t<ops.size:=(Array.getElem?_eq_some_iff.1 hot).1
   by_cases htn:t=n
   · subst htn
     have h1:=List.all_eq_true.1 hs i (List.mem_range.2 hi)
     obtain ⟨j,hj,hj2⟩:=List.any_eq_true.1 h1
     simp only [Bool.and_eq_true,decide_eq_true_eq] at hj2
     obtain ⟨oj,hoj,e,he,hb,hon⟩:=Region.waitsFor_spec hj2.2
     have hjle:j≤t:=by have:=List.mem_range.1 hj;omega
     by_cases hjt:j=t
     · subst hjt
       have:oj=ot:=Option.some.inj (hoj.symm.trans hot)
       subst this
       have h2:=hall e he hb
       rw [hon,getD_both hun] at h2
       cases h2
     · cases hl:listed.getD j false with
       | true=>
         have h2:=inv.closed j oj hoj hl e he hb
         rw [hon,getD_both hun] at h2
         cases h2
       | false=>
         have hjs:j<listed.size:=by rw [inv.size];omega
         exact ih (t-j) (by omega) j rfl (by omega) (getD_in hjs hl) t jN hr
   · have h1:=List.all_eq_true.1 hc t (List.mem_range.2 htlt)
     simp only [Bool.or_eq_true,decide_eq_true_eq] at h1
     rcases h1 with h1|h1
     · omega
     · obtain ⟨s,hs1,hs2⟩:=List.any_eq_true.1 h1
       simp only [Bool.and_eq_true,decide_eq_true_eq] at hs2
       have hst:=List.mem_range.1 hs1
       obtain ⟨o',ho',e,he,hb,hon⟩:=Region.waitsFor_spec hs2.2
       have:o'=ot:=Option.some.inj (ho'.symm.trans hot)
       subst this
       have h2:=hall e he hb
       rw [hon,getD_both (inv.tail s hs2.1 (by omega))] at h2
       cases h2
def wpAnyLQ (P:Program) (md:Region.Mode) (ops:Array Oper) (C:World→Prop) (n:Nat) (L:Array Bool→Act→Prop):Nat→Array Bool→Act→Prop
 |0,listed,a=>L listed a
 | f+1,listed,a=>
   Region.ready md ops listed≠[]∧∀i∈Region.ready md ops listed,i<n∧qOp P ops C i (wpAnyLQ P md ops C n L f (listed.setIfInBounds i true)) a
theorem wpAny_of_headQ {n g:Nat} {L:Array Bool→Act→Prop} {Q':Exit→Act→World→Prop} (hL:∀listed a w,C w→L listed a→wpAny P md ops Q' g listed a w):
 ∀(f:Nat) (listed:Array Bool) (a:Act) (w:World),C w→wpAnyLQ P md ops C n L f listed a→wpAny P md ops Q' (f+g) listed a w
 |0,listed,a,w,hw,h=>by rw [Nat.zero_add];exact hL _ _ _ hw h
 | f+1,listed,a,w,hw,h=>by
   rw [show f+1+g=(f+g)+1 by omega]
   exact ⟨fun h0=>absurd h0 h.1,fun i hi=>wpOp_of_qOp hw (fun a' w' hw' h'=>wpAny_of_headQ hL f _ a' w' hw' h') (h.2 i hi).2⟩
theorem wpAnyLQ_first {n i:Nat} {oi:Oper} {v:Value} {L:Array Bool→Act→Prop} (hi:ops[i]? =some oi) (hsel:∀(j:Nat) (o:Oper) cs b,ops[j]? =some o→o.op≠.select cs b)
 (hs:Region.sinkB md ops n=true) (hc:chainB2 md ops n=true) (hn:n<ops.size) (hin:i<n)
 (hdone:∀listed a,L listed a→∀j∈Region.ready md ops listed,n≤j):
 ∀ (f:Nat) (listed:Array Bool) (a:Act),HeadInv md ops n listed→
   (∀j oj,ops[j]? =some oj→j≠i→listed.getD j true=false→(∀e∈oj.after,Region.binds md e=true→e.on≠i)→oi.apart ops oj=true)→
   i∈Region.ready md ops listed→YieldsIn P ops C oi v a→
   wpAnyLQ P md ops C n L f (listed.setIfInBounds i true) (a.put oi.dst v)→wpAnyLQ P md ops C n L (f+1) listed a:=by
 intro f
 induction f with
 | zero=>
   intro listed a inv _ hr hy H
   have hun:=(mem_ready.1 hr).1
   refine ⟨fun h=>(by rw [h] at hr;cases hr),fun j hj=>?_⟩
   have hjn:j<n:=by
    rcases Nat.lt_or_ge j n with h|h
    · exact h
    · exact absurd hj (tail_waits2 hs hc hn inv _ i rfl hin hun j h)
   refine ⟨hjn,?_⟩
   by_cases hji:j=i
   · subst hji;exact hy.qOp hi H
   · have:=hdone _ _ H j (ready_mono hj hji)
     omega
 | succ f ih=>
   intro listed a inv hfree hr hy H
   have hun:=(mem_ready.1 hr).1
   refine ⟨fun h=>(by rw [h] at hr;cases hr),fun j hj=>?_⟩
   have hjn:j<n:=by
    rcases Nat.lt_or_ge j n with h|h
    · exact h
    · exact absurd hj (tail_waits2 hs hc hn inv _ i rfl hin hun j h)
   refine ⟨hjn,?_⟩
   by_cases hji:j=i
   · subst hji;exact hy.qOp hi H
   · have h1:=(H.2 j (ready_mono hj hji)).2
     obtain ⟨hjun,oj,hoj,hall⟩:=mem_ready.1 hj
     have hnot:∀e∈oj.after,Region.binds md e=true→e.on≠i:=fun e he hb heq=>by
      have h1:=hall e he hb
      rw [heq,getD_both hun] at h1
      cases h1
     have h2:=qOp_put hoj (hfree j oj hoj hji hjun hnot) (fun cs b=>hsel i oi cs b hi) (fun cs b=>hsel j oj cs b hoj) hy h1
     have hfree':∀k ok,ops[k]? =some ok→k≠i→(listed.setIfInBounds j true).getD k true=false→
      (∀e∈ok.after,Region.binds md e=true→e.on≠i)→oi.apart ops ok=true:=fun k ok hk hki hun hno=>by
      refine hfree k ok hk hki ?_ hno
      by_cases hjk:j=k
      · subst hjk;exact hjun
      · rw [getD_set_ne true hjk] at hun;exact hun
     refine qOp_mono (fun a' h3=>ih (listed.setIfInBounds j true) a' (inv.set hj hjn) hfree' (ready_mono hr (Ne.symm hji)) h3.1 ?_) h2
     rw [Array.setIfInBounds_comm _ _ hji]
     exact h3.2
def oneB (md:Region.Mode) (ops:Array Oper) (g n:Nat) (listed:Array Bool):Bool:=
 decide (Region.ready md ops listed=[n]) && Region.lexFrom md ops g (n+1) (listed.setIfInBounds n true)
def lexHead2 (md:Region.Mode) (ops:Array Oper) (g n:Nat):Nat→Nat→Array Bool→Bool
 |0,_,listed=>oneB md ops g n listed
 |f+1,k,listed=>(Region.ready md ops listed).contains k && Region.free md ops listed k && lexHead2 md ops g n f (k+1) (listed.setIfInBounds k true)
def lexTail2 (md:Region.Mode) (ops:Array Oper) (n:Nat):Bool:=
 Region.noSelect ops && decide (n<ops.size) && Region.sinkB md ops n && chainB2 md ops n && lexHead2 md ops (ops.size-n-1) n n 0 (Array.replicate ops.size false)
theorem wpAnyLQ_lex {n g:Nat} {Lq:Act→Prop} (hsel:Region.noSelect ops=true) (hs:Region.sinkB md ops n=true) (hc:chainB2 md ops n=true) (hn:n<ops.size):
 ∀(l:List Oper) (k:Nat) (listed:Array Bool) (a:Act),(∀j,j<l.length→l[j]? =ops[k+j]?)→k+l.length=n→HeadInv md ops n listed→
 lexHead2 md ops g n l.length k listed=true→wpQuiet P ops C Lq l a→
 wpAnyLQ P md ops C n (fun listed' a'=>oneB md ops g n listed'=true∧Lq a') l.length listed a
 |[],k,listed,a,_,hk,_,hB,h=>⟨by simpa [lexHead2] using hB,h⟩
 | o ::l,k,listed,a,hl,hk,inv,hB,h=>by
   have h0:ops[k]? =some o:=by simpa using (hl 0 (by simp)).symm
   simp only [List.length_cons,lexHead2,Bool.and_eq_true] at hB
   obtain ⟨⟨hr,hf⟩,hB'⟩:=hB
   have hkn:k<n:=by simp only [List.length_cons] at hk;omega
   have hr':k∈Region.ready md ops listed:=by simpa using hr
   have hst:qOp P ops C k (wpQuiet P ops C Lq l) a:=by unfold qOp;simp only [h0];exact h
   obtain ⟨v,hy,hK⟩:=yieldsIn_of_qOp h0 hst
   exact wpAnyLQ_first h0 (Region.noSelect_spec hsel) hs hc hn hkn (fun listed' a' hL j hj=>by
    have h1:=hL.1
    simp only [oneB,Bool.and_eq_true,decide_eq_true_eq] at h1
    rw [h1.1] at hj
    simp at hj
    omega) l.length listed a inv (Region.free_spec h0 hf) hr' hy
    (wpAnyLQ_lex hsel hs hc hn l (k+1) _ _ (fun j hj=>by have:=hl (j+1) (by simp;omega);simpa [Nat.add_assoc,Nat.add_comm 1 j] using this) (by simp only [List.length_cons] at hk;omega) (inv.set hr' hkn) hB' hK)
theorem wp_region_quiet_tail {id:Nat} {Q:Exit→Act→World→Prop} {a:Act} {w:World} {l:List Oper} (n:Nat) (hm:P.follows .mixedOrders=true) (hB:lexTail2 .any l.toArray n=true) (hp:(l.drop (n+1)).all pureB=true)
 (hC:C {w with drawn:=w.drawn+1}) (h:wpQuiet P l.toArray C (fun a'=>∀w',C w'→wpList P l.toArray Q (l.drop n) a' w') (l.take n) a):(Code.region id l.toArray true).wp P Q a w:=by
 simp only [lexTail2,Bool.and_eq_true,decide_eq_true_eq] at hB
 obtain ⟨⟨⟨⟨hsel,hn⟩,hs⟩,hc⟩,hlex⟩:=hB
 have hn':n<l.length:=by simpa using hn
 have htl:(l.take n).length=n:=by simp;omega
 have hon:l.toArray[n]? =some l[n]:=by simp [hn']
 have hdl:(l.drop (n+1)).length=l.toArray.size-n-1:=by simp;omega
 have inv0:HeadInv .any l.toArray n (Array.replicate l.toArray.size false):=
  ⟨by simp,fun j oj _ hl=>(by rw [getD_replicate_false] at hl;cases hl),fun t _ ht=>getD_in (by simpa using ht) (getD_replicate_false _ _)⟩
 have H:=wpAnyLQ_lex (P:=P) (C:=C) (md:=.any) (g:=l.toArray.size-n-1) hsel hs hc hn (l.take n) 0 _ a (fun j hj=>by
  have hj':j<n:=by rw [htl] at hj;exact hj
  simp [hj']) (by simpa using htl) inv0 (by rw [htl];exact hlex) h
 refine wp_region_any hm ?_
 have:=wpAny_of_headQ (Q':=Q) (g:=l.toArray.size-n) (fun listed a' w' hw' hL=>by
  obtain ⟨h1,h2⟩:=hL
  simp only [oneB,Bool.and_eq_true,decide_eq_true_eq] at h1
  have h3:=h2 w' hw'
  rw [List.drop_eq_getElem_cons hn'] at h3
  rw [show l.toArray.size-n=(l.toArray.size-n-1)+1 by omega]
  refine ⟨fun h0=>(by rw [h1.1] at h0;cases h0),fun i hi=>?_⟩
  rw [h1.1] at hi
  have hin:i=n:=by simpa using hi
  subst hin
  have hop:wpOp P l.toArray Q i (wpList P l.toArray Q (l.drop (i+1))) a' w':=by unfold wpOp;simp only [hon];exact h3
  refine wpOp_mono (fun a2 w2 h4=>?_) hop
  have h5:=still_of_list _ a2 w2 hp h4
  have h6:=wpAnyS_lex (md:=.any) hsel (l.drop (i+1)) (i+1) (listed.setIfInBounds i true) a2 (fun j=>by simp [List.getElem?_drop]) (by rw [hdl];exact h1.2) h5
  rw [hdl] at h6
  exact wpAny_of_still (fun _ h=>h) _ _ _ h6) _ _ _ _ hC H
 rw [htl,show n+(l.toArray.size-n)=l.toArray.size by omega] at this
 exact this
theorem wp_region_up_tail {id:Nat} {Q:Exit→Act→World→Prop} {a:Act} {w:World} {l:List Oper} (n:Nat) (hm:P.follows .mixedOrders=true) (hB:lexTail2 .any l.toArray n=true) (hp:(l.drop (n+1)).all pureB=true)
 (h:wpQuiet P l.toArray (fun w'=>∃g:Up w,w'=g.world) (fun a'=>∀w',(∃g:Up w,w'=g.world)→wpList P l.toArray Q (l.drop n) a' w') (l.take n) a):(Code.region id l.toArray true).wp P Q a w:=
 wp_region_quiet_tail (C:=fun w'=>∃g:Up w,w'=g.world) n hm hB hp ⟨⟨_,jB.drew⟩,rfl⟩ h
theorem wp_region_upW {W:World} {g:Up W} {id:Nat} {Q:Exit→Act→World→Prop} {a:Act} {l:List Oper} (hm:P.follows .mixedOrders=true) (hB:Region.lexB .any l.toArray=true)
 (h:wpQuiet P l.toArray (fun w'=>∃g:Up W,w'=g.world) (fun a'=>∀w',(∃g:Up W,w'=g.world)→Q .normal a' w') l a):(Code.region id l.toArray true).wp P Q a g.world:=
 wp_region_quiet (C:=fun w'=>∃g:Up W,w'=g.world) hm hB ⟨⟨_,g.h.drew⟩,rfl⟩ (by simpa using h)
end
set_option maxRecDepth 100000
open Go.RowKit
def addrV (a:Int×Int):Value:=.agg #[.int .i64 a.1,.int .i64 a.2]
def SlB (w:World) (v:Value) (L:Bytes):Prop:=∃A n c,v=.slice A n c∧n≤c∧SBy w A n L
theorem SlB.off {S:Nat→Prop} {w w':World} {v:Value} {L:Bytes} (h:SlB w v L) (ho:Off S w w') (hs:∀b o n c,v=.slice (Option.some ⟨b,o,none⟩) n c→¬S b):SlB w' v L:=by
 obtain ⟨A,n,c,rfl,h1,h2⟩:=h
 exact ⟨A,n,c,rfl,h1,h2.off ho fun k o e=>hs k o n c (by rw [e])⟩
theorem SlB.up {w w':World} {v:Value} {L:Bytes} (h:SlB w v L) (hb:Below w.heap.size w w'):SlB w' v L:=h.off (S:=fun _=>False) (Off.of_below hb) (fun _ _ _ _ _=>id)
theorem loadVar_addr {w:World} {g o:Nat} {v0 v1:Value} (h0:w.cell? ⟨g,o,none⟩=some v0) (h1:w.cell? ⟨g,o+1,none⟩=some v1):(loadVar 149 ⟨g,o,none⟩).run Tryz.prog w=.ok (.agg #[v0,v1]) w:=by
 refine run_loadVar_mid (P:=Tryz.prog) w g o 149 [v0,v1] _ (fun j v hv=>?_) Tryz.underlying149 rfl (by kernel_rfl)
 match j,hv with
 |0,hv=>simp at hv;rw [←hv];exact h0
 |1,hv=>simp at hv;rw [←hv];exact h1
 |j+2,hv=>simp at hv
theorem results_addr {fn:Func} {p u:Tmp} (h:fn.results=#[.cell p 149,.tmp u]) (tmps:Array Value) (w:World) (g:Nat) (v0 v1:Value) (hp:tmps.getD p undef=.pointer (some ⟨g,0,none⟩)) (h0:w.cell? ⟨g,0,none⟩=some v0) (h1:w.cell? ⟨g,1,none⟩=some v1):
 (results fn tmps).run Tryz.prog w=.ok (.tuple #[.agg #[v0,v1],tmps.getD u undef]) w:=by
 rw [results_cell_tmp h,hp]
 simp only [asAddr,Sem.run_pure,Result.andThen_ok,loadVar_addr h0 h1]
def Adr (A:Option Addr):Prop:=∀a,A=some a→∃b o,a=⟨b,o,none⟩
def SlA (w:World) (v:Value) (L:Bytes):Prop:=∃A n c,v=.slice A n c∧n≤c∧SBy w A n L∧Adr A
theorem SlA.slB {w:World} {v:Value} {L:Bytes} (h:SlA w v L):SlB w v L:=by
 obtain ⟨A,n,c,h1,h2,h3,_⟩:=h
 exact ⟨A,n,c,h1,h2,h3⟩
theorem OwB.slA {B:Nat} {w:World} {v:Value} {L:Bytes} (h:OwB B w v L):SlA w v L∧(∀b o n c,v=.slice (Option.some ⟨b,o,none⟩) n c→B≤b):=by
 rcases h.2 with ⟨rfl,h0⟩|⟨g,cap,cur,rfl,hb,hg,h1,h2,h3,h4⟩
 · have:L=[]:=by simpa using h0
   subst this
   exact ⟨⟨none,_,_,rfl,Nat.le_refl _,SBy.nil _ _,fun a e=>by cases e⟩,fun b o n c e=>by cases e⟩
 · obtain ⟨A,c,e,g1,g2,g3,g4⟩:=h.form
   cases e
   exact ⟨⟨_,_,_,rfl,g1,g3,fun a e=>by cases e;exact ⟨_,_,rfl⟩⟩,fun b o n c e=>by cases e;exact hb⟩
theorem adr_some {b o:Nat}:Adr (some ⟨b,o,none⟩):=fun a e=>by cases e;exact ⟨_,_,rfl⟩
theorem SBy.take {w:World} {A:Option Addr} {n k:Nat} {L:Bytes} (hS:SBy w A n L) (hk:k≤n):SBy w A k (L.take k):=by
 refine ⟨by simp [hS.1];omega,fun hp=>?_⟩
 obtain ⟨b,o,rfl,h1,h2⟩:=hS.2 (by omega)
 refine ⟨b,o,rfl,h1,fun j hj=>?_⟩
 rw [h2 j (by omega)]
 simp [at8,List.getD_eq_getElem?_getD,List.getElem?_take,hj]
def VIn (Vb:Nat→Prop) (v:Value):Prop:=∀b o n c,v=.slice (some ⟨b,o,none⟩) n c→0<n→Vb b
theorem VIn.mono {V V':Nat→Prop} {v:Value} (h:VIn V v) (hm:∀b,V b→V' b):VIn V' v:=fun b o n c e hn=>hm b (h b o n c e hn)
theorem SlB.offP {S:Nat→Prop} {w w':World} {v:Value} {L:Bytes} (h:SlB w v L) (ho:Off S w w') (hs:VIn (fun b=>¬S b) v):SlB w' v L:=by
 obtain ⟨A,n,c,rfl,h1,h2⟩:=h
 refine ⟨A,n,c,rfl,h1,?_⟩
 rcases Nat.eq_zero_or_pos n with h0|h0
 · subst h0
   have:L=[]:=by simpa using h2.1
   subst this
   exact SBy.nil _ _
 · exact h2.off ho fun k o e=>hs k o n c (by rw [e]) h0
theorem SlB.inl {w:World} {v:Value} {L:Bytes} (h:SlB w v L):VIn (fun b=>b<w.heap.size) v:=by
 obtain ⟨A,n,c,rfl,h1,h2⟩:=h
 intro b o n' c' e hn
 cases e
 obtain ⟨b',o',e',hc⟩:=h2.2 hn
 cases e'
 exact hc.1
theorem FrB.app {w0 w:World} {v:Value} {L M:Bytes} {A:Option Addr} {m c:Nat} (hf:FrB w0 w v L) (hS:SBy w A m M) (hlen:L.length+m≤140737488355328) (ty:TypeId):
 ∃A' c' w',(Builtin.append_ #[24,24] ty #[v,.slice A m c]).run Tryz.prog w=.ok (.slice A' (L ++ M).length c') w'∧FrB w0 w' (.slice A' (L ++ M).length c') (L ++ M)∧Off (fun k=>v.ownBlock=some k) w w':=by
 obtain ⟨v',w',hr,h1,hg,h3⟩:=run_app (c:=c) hf.own hS hf.bel.size hlen ty
 obtain ⟨A',c',rfl,_⟩:=h1.form
 exact ⟨A',c',w',hr,⟨h1,hf.own.below hf.bel hg hf.bel.size⟩,grown_off hg⟩
theorem step_appF {ops:Array Oper} {o:Oper} {a:Act} {w:World} {K:Act→World→Prop} {Q:Exit→Act→World→Prop} {E:Prop} (hg:o.guard=none) (s x:Operand)
 (hop:o.op=Op.call {callee:=Callee.builtin Builtin.append,args:=#[s,x],argTypes:=#[24,24]}) (w0:World) (v:Value) (L M:Bytes) (hs:a.eval s=v) (hf:FrB w0 w v L) (A:Option Addr) (m c:Nat) (hx:a.eval x=.slice A m c)
 (hS:SBy w A m M) (hlen:L.length+m≤140737488355328) (n':Nat) (hn':n'=(L ++ M).length) (hK:∀A' c' w',FrB w0 w' (.slice A' n' c') (L ++ M)→K (a.put o.dst (.slice A' n' c')) w'):
 if Region.wanted o (yielded ops a.tmps)=true then Oper.wp Tryz.prog o a w K Q else E:=by
 have hw:Region.wanted o (yielded ops a.tmps)=true:=by simp [Region.wanted,hg]
 rw [if_pos hw]
 obtain ⟨A',c',w',hr,hf',_⟩:=hf.app hS hlen o.type
 rw [←hn'] at hr hf'
 unfold Oper.wp
 simp [execOp,hop,resolve,invoke,builtin,hs,hx,Result.andThen]
 rw [hr]
 exact hK A' c' w' hf'
def inc64 (p:Int):Int:=wrap64 (p+1)
theorem FrB.slA {w0 w:World} {v:Value} {L:Bytes} (h:FrB w0 w v L):SlA w v L∧∀b o n c,v=.slice (some ⟨b,o,none⟩) n c→w0.heap.size≤b:=h.own.slA
theorem box2_set2 {w:World} {g:Nat} {a b v0 v1:Value} (h0:w.cell? ⟨g,0,none⟩=some a) (h1:w.cell? ⟨g,1,none⟩=some b):
 ((w.setCell ⟨g,0,none⟩ v0).setCell ⟨g,1,none⟩ v1).cell? ⟨g,0,none⟩=some v0∧((w.setCell ⟨g,0,none⟩ v0).setCell ⟨g,1,none⟩ v1).cell? ⟨g,1,none⟩=some v1:=by
 have n1:(⟨g,1,none⟩:Addr)≠⟨g,0,none⟩:=fun e=>by injection e with e1 e2;omega
 refine ⟨?_,World.cell?_setCell_same _ _ _ ((World.cell?_setCell_other _ _ _ _ n1.symm).trans h1)⟩
 rw [World.cell?_setCell_other _ _ _ _ n1]
 exact World.cell?_setCell_same _ _ _ h0
def Box0 (w:World) (g:Nat):Prop:=(w.cell? ⟨g,0,none⟩=some (.int .i64 0)∧w.cell? ⟨g,1,none⟩=some (.int .i64 0))∧∀k,w.frozen? ⟨g,k,none⟩=false
theorem Box0.new (w:World) (t:TypeId):Box0 (w.alloc (.cells #[.int .i64 0,.int .i64 0] t)) w.heap.size:=by
 refine ⟨⟨?_,?_⟩,fun k=>?_⟩
 · rw [cell_of_row _ _ _ _ _ _ (heap_alloc_new w _)];rfl
 · rw [cell_of_row _ _ _ _ _ _ (heap_alloc_new w _)];rfl
 · unfold World.frozen?
   rw [heap_alloc_new]
   simp
def BoxA (w:World) (g:Nat) (r:Int×Int):Prop:=w.cell? ⟨g,0,none⟩=some (.int .i64 r.1)∧w.cell? ⟨g,1,none⟩=some (.int .i64 r.2)∧∀k,w.frozen? ⟨g,k,none⟩=false
theorem BoxA.lt {w:World} {g:Nat} {r:Int×Int} (h:BoxA w g r):g<w.heap.size:=lt_of_cell h.1
theorem BoxA.off {S:Nat→Prop} {w w':World} {g:Nat} {r:Int×Int} (h:BoxA w g r) (ho:Off S w w') (hs:¬S g):BoxA w' g r:=
 ⟨(ho.cell (p:=⟨g,0,none⟩) h.lt hs).trans h.1,(ho.cell (p:=⟨g,1,none⟩) h.lt hs).trans h.2.1,fun k=>(ho.frozen (p:=⟨g,k,none⟩) h.lt hs).trans (h.2.2 k)⟩
theorem BoxA.new (w:World) (t:TypeId) (r:Int×Int):BoxA (w.alloc (.cells #[.int .i64 r.1,.int .i64 r.2] t)) w.heap.size r:=by
 refine ⟨?_,?_,fun k=>?_⟩
 · rw [cell_of_row _ _ _ _ _ _ (heap_alloc_new w _)];rfl
 · rw [cell_of_row _ _ _ _ _ _ (heap_alloc_new w _)];rfl
 · unfold World.frozen?
   rw [heap_alloc_new]
   simp
theorem BoxA.set {w:World} {g:Nat} {r:Int×Int} (h:BoxA w g r) (r':Int×Int):BoxA ((w.setCell ⟨g,0,none⟩ (.int .i64 r'.1)).setCell ⟨g,1,none⟩ (.int .i64 r'.2)) g r'∧Off (· =g) w ((w.setCell ⟨g,0,none⟩ (.int .i64 r'.1)).setCell ⟨g,1,none⟩ (.int .i64 r'.2)):=by
 obtain ⟨e1,e2⟩:=box2_set2 (v0:=.int .i64 r'.1) (v1:=.int .i64 r'.2) h.1 h.2.1
 exact ⟨⟨e1,e2,fun k=>by rw [World.frozen?_setCell,World.frozen?_setCell];exact h.2.2 k⟩,((Off.refl (· =g) w).setCell (p:=⟨g,0,none⟩) rfl _).setCell (p:=⟨g,1,none⟩) rfl _⟩
structure SnkF (σ:Type) where
 get:σ→Int×Int→σ×Bytes×Int
 put:σ→Bytes→σ×(Int×Int)×Int
 Rdy:σ→Nat→Prop
def Bd (a:Int×Int):Prop:=0≤a.1∧a.1≤2147483647∧0≤a.2∧a.2≤2147483647
structure SnkF.Good {σ:Type} (K:SnkF σ):Prop where
 mono:∀s n m,K.Rdy s n→m≤n→K.Rdy s m
 getR:∀s a n,K.Rdy s n→K.Rdy (K.get s a).1 n
 putR:∀s b n,K.Rdy s (n+1)→b.length≤5000→K.Rdy (K.put s b).1 n
 getB:∀s a,K.Rdy s 0→(K.get s a).2.2=0→Bd a
 putB:∀s b,K.Rdy s 1→b.length≤5000→(K.put s b).2.2=0→Bd (K.put s b).2.1
def GePost {σ:Type} (At:World→(Nat→Prop)→σ→Prop) (K:SnkF σ) (w:World) (O:Nat→Prop) (s:σ) (a:Int×Int) (e:Ending) (w':World):Prop:=
 ∃v,e=.returned (.tuple #[v,.int .i64 (K.get s a).2.2])∧At w' O (K.get s a).1∧Off O w w'∧SlA w' v (K.get s a).2.1∧(∀b o n c,v=.slice (some ⟨b,o,none⟩) n c→w.heap.size≤b)∧(K.get s a).2.1.length≤2 ^ 40
def PuPost {σ:Type} (At:World→(Nat→Prop)→σ→Prop) (K:SnkF σ) (w:World) (O:Nat→Prop) (s:σ) (b:Bytes) (e:Ending) (w':World):Prop:=
 ∃O':Nat→Prop,e=.returned (.tuple #[addrV (K.put s b).2.1,.int .i64 (K.put s b).2.2])∧At w' O' (K.put s b).1∧Off O w w'∧∀k,O' k→O k∨w.heap.size≤k
structure Snk {σ:Type} (K:SnkF σ) where
 T:TypeId
 p:Option Addr
 fg:FuncId
 fp:FuncId
 nilG:∀n w,(nilAhead (n+1) T (.pointer p) "Get").run Tryz.prog w=.ok (some false) w
 nilP:∀n w,(nilAhead (n+1) T (.pointer p) "Put").run Tryz.prog w=.ok (some false) w
 metG:∀n w,(method (n+1) T (.pointer p) "Get").run Tryz.prog w=.ok (fg,.pointer p) w
 metP:∀n w,(method (n+1) T (.pointer p) "Put").run Tryz.prog w=.ok (fp,.pointer p) w
 entG:∀(args:Array Value) (w:World),(callFunc fg args).run Tryz.prog w=.ok (.enter fg args) w
 entP:∀(args:Array Value) (w:World),(callFunc fp args).run Tryz.prog w=.ok (.enter fp args) w
 At:World→(Nat→Prop)→σ→Prop
 off:∀{S O:Nat→Prop} {w w':World} {s:σ},At w O s→Off S w w'→(∀k,S k→¬O k)→At w' O s
 lt:∀{O:Nat→Prop} {w:World} {s:σ} {k:Nat},At w O s→O k→k<w.heap.size
 get:∀{O:Nat→Prop} {w:World} {s:σ} (a:Int×Int),At w O s→Calls Tryz.prog fg #[.pointer p,addrV a] w (GePost At K w O s a)
 put:∀{O:Nat→Prop} {w:World} {s:σ} {v:Value} {b:Bytes},At w O s→K.Rdy s 1→SlA w v b→b.length≤5000→Calls Tryz.prog fp #[.pointer p,v] w (PuPost At K w O s b)
end Go.Proofs.YtlhfjaagkgengaaGreat
