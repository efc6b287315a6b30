/- Arguments opened: bytes. Arguments opened: a shape. Arguments opened: rows, with each element's bulk; a list of acts of almanaclaw16. Arguments opened: rows of regions, of slots. -/
import Derived.Test.YtlhfjaagkgengaaGreatPC00
import Derived.Test.YtlhfjaagkgengaaGreatPC04
import Derived.Test.YtlhfjaagkgengaaGreatPC27
import Derived.Test.YtlhfjaagkgengaaGreatPC03
import Derived.Test.YtlhfjaagkgengaaGreatPC23
namespace Go.Proofs.YtlhfjaagkgengaaGreat
set_option maxRecDepth 100000
open Go.ChangeShapes Go.WideShapes Go.ChangeAt Go.RowKit Go.Joins Go.Deep
set_option linter.unusedVariables false
set_option linter.unusedSimpArgs false
theorem cellsU8:Tryz.prog.cellsOf 5=1:=by kernel_rfl
section
variable {H:Type} {enc:TypeId×Value→H} {w:World}
end
set_option maxRecDepth 100000
theorem cellsCfg:Tryz.prog.cellsOf 23=9:=by kernel_rfl
section
variable {H:Type} {enc:TypeId×Value→H} {w:World}
theorem open_cfg {base:Nat} {v:Value} {d:DataW H} {p:List MemPlace} (hv:Value.okWide Tryz.prog w .any base 23 v) (h:DataW.Trod enc Tryz.prog w 0 (fun _=>true) true 23 v d p):
 ∃a0 a1 a2 a3 a4 a5 a6 a7 a8:Int,v=.agg #[.int .i64 a0,.int .i64 a1,.int .i64 a2,.int .i64 a3,.int .i64 a4,.int .i64 a5,.int .i64 a6,.int .i64 a7,.int .i64 a8]:=by
 obtain ⟨cs,rfl,hsz⟩:=okWide_struct Tryz.underlying23 hv
 rw [cellsCfg] at hsz
 obtain ⟨m,hm⟩:=h
 have g:=field_of Tryz.underlying23 (by kernel_rfl) cellsCfg hm
 have gi:∀j,j<9→∃a:Int,cs[j]? =some (.int .i64 a):=fun j hj=>by
  have key:∀f,(_:Array Field)[j]? =some f→f.type=3→∃a:Int,cs[j]? =some (.int .i64 a):=fun f hf ht=>by
   obtain ⟨v,y,m',hc,ht'⟩:=g j f hf
   rw [ht] at ht'
   obtain ⟨a,ha,_⟩:=DataW.trod_int Tryz.underlying3 ht'
   simp at ha
   subst ha
   exact ⟨a,by simpa [Value.cells] using hc⟩
  match j,hj with
  |0,_=>exact key _ rfl rfl
  |1,_=>exact key _ rfl rfl
  |2,_=>exact key _ rfl rfl
  |3,_=>exact key _ rfl rfl
  |4,_=>exact key _ rfl rfl
  |5,_=>exact key _ rfl rfl
  |6,_=>exact key _ rfl rfl
  |7,_=>exact key _ rfl rfl
  |8,_=>exact key _ rfl rfl
 obtain ⟨a0,h0⟩:=gi 0 (by omega)
 obtain ⟨a1,h1⟩:=gi 1 (by omega)
 obtain ⟨a2,h2⟩:=gi 2 (by omega)
 obtain ⟨a3,h3⟩:=gi 3 (by omega)
 obtain ⟨a4,h4⟩:=gi 4 (by omega)
 obtain ⟨a5,h5⟩:=gi 5 (by omega)
 obtain ⟨a6,h6⟩:=gi 6 (by omega)
 obtain ⟨a7,h7⟩:=gi 7 (by omega)
 obtain ⟨a8,h8⟩:=gi 8 (by omega)
 refine ⟨a0,a1,a2,a3,a4,a5,a6,a7,a8,?_⟩
 refine congrArg Value.agg ?_
 apply Array.ext_getElem?
 intro i
 match i with
 |0=>exact h0
 |1=>exact h1
 |2=>exact h2
 |3=>exact h3
 |4=>exact h4
 |5=>exact h5
 |6=>exact h6
 |7=>exact h7
 |8=>exact h8
 | i+9=>
   rw [Array.getElem?_eq_none (by omega),Array.getElem?_eq_none (by simp)]
theorem open_cfgF {base:Nat} {v:Value} {d:DataW H} {p:List MemPlace} (hv:Value.okWide Tryz.prog w .any base 23 v) (h:DataW.Trod enc Tryz.prog w 0 (fun _=>true) true 23 v d p):∃cf:Nat→Int,v=cfgV cf:=by
 obtain ⟨a0,a1,a2,a3,a4,a5,a6,a7,a8,rfl⟩:=open_cfg hv h
 exact ⟨fun i=>([a0,a1,a2,a3,a4,a5,a6,a7,a8]:List Int).getD i 0,by unfold cfgV;rfl⟩
end
set_option maxRecDepth 100000
theorem bulk_one {H:Type} (d:DataW H):1≤Rows.uptoBulk d:=by
 cases d with
 |lit l=>cases l<;>simp [Rows.uptoBulk]
 |nil=>simp [Rows.uptoBulk]
 |ptr d=>simp [Rows.uptoBulk]
 |slice elems spare=>simp [Rows.uptoBulk]
 |agg parts=>simp [Rows.uptoBulk]
 |iface t d=>simp [Rows.uptoBulk]
 |map entries=>simp [Rows.uptoBulk]
 |held h=>simp [Rows.uptoBulk]
theorem bulk_part {H:Type} {d:DataW H} {l:List (DataW H)} (h:d∈l):Rows.uptoBulk d≤Rows.uptoBulkAll l:=by
 induction l with
 |nil=>cases h
 | cons x r ih=>
   simp only [Rows.uptoBulkAll]
   cases List.mem_cons.1 h with
   |inl e=>subst e;omega
   |inr e=>have:=ih e;omega
theorem bulk_len {H:Type} (l:List (DataW H)):l.length≤Rows.uptoBulkAll l:=by
 induction l with
 |nil=>simp [Rows.uptoBulkAll]
 |cons x r ih=>have:=bulk_one x;simp only [Rows.uptoBulkAll,List.length_cons];omega
theorem bulk_bound {H:Type} {l:List (DataW H)} (hk:Rows.uptoSmall H l=true):Rows.uptoBulkAll l≤1048576:=of_decide_eq_true hk
theorem cellsAct:Tryz.prog.cellsOf 49=7:=by kernel_rfl
theorem cellsOp:Tryz.prog.cellsOf 47=6:=by kernel_rfl
section
variable {H:Type} {enc:TypeId×Value→H} {w:World}
theorem open_byB {A:Option Addr} {n c fuel:Nat} {x:DataW H×List MemPlace} (h:DataW.trod enc Tryz.prog w 0 (fun _=>true) true fuel 24 [.slice A n c]=some x):
 n≤c∧n≤maxLen∧n≤Rows.uptoBulk x.1∧∃L,SBy w A n L:=by
 rcases open_slice1 Tryz.underlying24 cellsU8 h with ⟨h0,h1⟩|⟨a,len,cap,m,n',V,D,Pl,hcs,_,hl,hm,hmm,hx,hi⟩
 · simp at h0
   obtain ⟨rfl,rfl,rfl⟩:=h0
   exact ⟨Nat.le_refl _,by unfold maxLen;omega,Nat.zero_le _,[],SBy.nil _ _⟩
 · simp at hcs
   obtain ⟨rfl,rfl,rfl⟩:=hcs
   have hlm:n≤m:=by rw [hmm];split<;>omega
   have hV:∀i,i<n→∃k:Nat,k<256∧V i=.int .u8 (k:Nat):=fun i hlt=>by
    obtain ⟨a',ha,hd,hw⟩:=DataW.trod_int Tryz.underlying5 (hi i (by omega)).2
    simp at ha
    have hb:0≤a'∧a'≤255:=by simpa [Lit.wf,IntKind.min,IntKind.max,IntKind.signed,IntKind.bits] using hw
    exact ⟨a'.toNat,by omega,by rw [ha,Int.toNat_of_nonneg hb.1]⟩
   refine ⟨hl,by omega,?_,(List.range n).map (fun i=>if h:i<n then b8 (Classical.choose (hV i h)) else 0),by simp,fun hp=>?_⟩
   · rw [hx]
     show n≤Rows.uptoBulkAll _+Rows.uptoBulkAll _+1
     have:=bulk_len ((List.range n).map D)
     simp at this
     omega
   · have hspot:a.spot=none∧a.block<w.heap.size:=by
      have h0:=(hi 0 (by omega)).1
      have e1:a.add 0=a:=by simp [Addr.add]
      rw [e1] at h0
      refine ⟨World.cell?_spot h0,?_⟩
      rcases Nat.lt_or_ge a.block w.heap.size with h1|h1
      · exact h1
      · simp [World.cell?,Array.getElem?_eq_none h1] at h0
     obtain ⟨b,o,spot⟩:=a
     obtain ⟨rfl,hb⟩:=hspot
     refine ⟨b,o,rfl,hb,fun k hk=>?_⟩
     have h1:=(hi k (by omega)).1
     rw [add_plain] at h1
     rw [h1]
     have hs:=Classical.choose_spec (hV k hk)
     have he:at8 ((List.range n).map (fun i=>if h:i<n then b8 (Classical.choose (hV i h)) else 0)) k=Classical.choose (hV k hk):=by
      rw [at8_get (by simpa using hk)]
      simp only [List.getElem_map,List.getElem_range,hk,dite_true]
      exact b8_lt hs.1
     rw [he]
     exact congrArg some hs.2
theorem rows_ofB {t e:TypeId} {A:Option Addr} {n c:Nat} {d:DataW H} {p:List MemPlace} (ht:Tryz.prog.underlying t=some (.slice e)) (hC:0<Tryz.prog.cellsOf e) (h:DataW.Trod enc Tryz.prog w 0 (fun _=>true) true t (.slice A n c) d p):
 n≤maxLen∧n≤Rows.uptoBulk d∧(0<n→∃b o,A=some ⟨b,o,none⟩∧b<w.heap.size∧∀k,k<n→∃(cs:List Value) (m:Nat) (x:DataW H×List MemPlace),cs.length=Tryz.prog.cellsOf e∧DataW.trod enc Tryz.prog w 0 (fun _=>true) true m e cs=some x∧Rows.uptoBulk x.1≤Rows.uptoBulk d∧∀j,j<Tryz.prog.cellsOf e→w.cell? ⟨b,o+k*Tryz.prog.cellsOf e+j,none⟩=cs[j]?):=by
 obtain ⟨fuel,hf⟩:=h
 rcases open_slice ht hf with ⟨h0,_⟩|⟨a,len,cap,m,n',D,Pl,hcs,_,hl,hm,hmm,hx,hi⟩
 · simp [Value.cells] at h0
   obtain ⟨rfl,rfl,rfl⟩:=h0
   exact ⟨by unfold maxLen;omega,Nat.zero_le _,fun h=>by omega⟩
 · simp [Value.cells] at hcs
   obtain ⟨rfl,rfl,rfl⟩:=hcs
   refine ⟨by omega,?_,fun hn=>?_⟩
   · have hx1:d=.slice ((List.range n).map D) ((List.range (m-n)).map fun j=>D (n+j)):=congrArg Prod.fst hx
     rw [hx1]
     show n≤Rows.uptoBulkAll _+Rows.uptoBulkAll _+1
     have:=bulk_len ((List.range n).map D)
     simp at this
     omega
   have hlm:n≤m:=by rw [hmm];split<;>omega
   have hspot:a.spot=none∧a.block<w.heap.size:=by
    obtain ⟨cs',hc,_⟩:=hi 0 (by omega)
    obtain ⟨_,hlen,hat⟩:=World.cells?_some hc
    have h0:=hat 0 hC
    rw [Nat.zero_mul] at h0
    have e1:(a.add 0).add 0=a:=by simp [Addr.add]
    rw [e1,jE (by omega)] at h0
    refine ⟨World.cell?_spot h0,?_⟩
    rcases Nat.lt_or_ge a.block w.heap.size with h1|h1
    · exact h1
    · simp [World.cell?,Array.getElem?_eq_none h1] at h0
   obtain ⟨b,o,spot⟩:=a
   obtain ⟨rfl,hb⟩:=hspot
   refine ⟨b,o,rfl,hb,fun k hk=>?_⟩
   obtain ⟨cs',hc,ht'⟩:=hi k (by omega)
   obtain ⟨_,hlen,hat⟩:=World.cells?_some hc
   refine ⟨cs',n',_,hlen,ht',?_,fun j hj=>?_⟩
   · have hx1:d=.slice ((List.range n).map D) ((List.range (m-n)).map fun j=>D (n+j)):=congrArg Prod.fst hx
     rw [hx1]
     show Rows.uptoBulk (D k)≤Rows.uptoBulkAll _+Rows.uptoBulkAll _+1
     have:=bulk_part (d:=D k) (l:=(List.range n).map D) (List.mem_map.2 ⟨k,List.mem_range.2 hk,rfl⟩)
     omega
   · have:=hat j hj
     rwa [add_plain,add_plain] at this
theorem field_ofB {e:TypeId} {fs:Array Field} {m:Nat} {cs:List Value} {x:DataW H×List MemPlace} (he:Tryz.prog.underlying e=some (.struct fs)) (hone:oneCellFields Tryz.prog fs=true) (hC:Tryz.prog.cellsOf e=fs.size) (h:DataW.trod enc Tryz.prog w 0 (fun _=>true) true m e cs=some x)
 (j:Nat) (f:Field) (hj:fs[j]? =some f):∃(v:Value) (y:DataW H×List MemPlace) (m':Nat),cs[j]? =some v∧DataW.trod enc Tryz.prog w 0 (fun _=>true) true m' f.type [v]=some y∧Rows.uptoBulk y.1≤Rows.uptoBulk x.1:=by
 obtain ⟨ys,n',_,hx,hlen,hyl,hf⟩:=DataW.trod_struct he h
 obtain ⟨ho,hk⟩:=hone_of hone j f hj
 have hjl:j<fs.size:=(Array.getElem?_eq_some_iff.1 hj).1
 have h1:=hf j f hj
 rw [ho,hk] at h1
 have e1:(cs.drop j).take 1=[cs[j]'(by omega)]:=by
  rw [List.drop_eq_getElem_cons (by omega)]
  rfl
 rw [e1] at h1
 refine ⟨_,_,n',jE (by omega),h1.trans (jE (by omega)),?_⟩
 rw [hx]
 show Rows.uptoBulk (ys[j]'(by omega)).1≤Rows.uptoBulkAll (ys.map (·.1))+1
 have:=bulk_part (d:=(ys[j]'(by omega)).1) (l:=ys.map (·.1)) (List.mem_map.2 ⟨_,List.getElem_mem _,rfl⟩)
 omega
theorem field_many {e:TypeId} {fs:Array Field} {m:Nat} {cs:List Value} {x:DataW H×List MemPlace} (he:Tryz.prog.underlying e=some (.struct fs)) (h:DataW.trod enc Tryz.prog w 0 (fun _=>true) true m e cs=some x)
 (j:Nat) (f:Field) (hj:fs[j]? =some f):∃(y:DataW H×List MemPlace) (m':Nat),DataW.trod enc Tryz.prog w 0 (fun _=>true) true m' f.type ((cs.drop f.offset).take (Tryz.prog.cellsOf f.type))=some y∧Rows.uptoBulk y.1≤Rows.uptoBulk x.1:=by
 obtain ⟨ys,n',_,hx,hlen,hyl,hf⟩:=DataW.trod_struct he h
 have hjl:j<fs.size:=(Array.getElem?_eq_some_iff.1 hj).1
 have h1:=hf j f hj
 refine ⟨_,n',h1.trans (jE (by omega)),?_⟩
 rw [hx]
 show Rows.uptoBulk (ys[j]'(by omega)).1≤Rows.uptoBulkAll (ys.map (·.1))+1
 have:=bulk_part (d:=(ys[j]'(by omega)).1) (l:=ys.map (·.1)) (List.mem_map.2 ⟨_,List.getElem_mem _,rfl⟩)
 omega
theorem list7 {cs:List Value} (h:cs.length=7):∃c0 c1 c2 c3 c4 c5 c6,cs=[c0,c1,c2,c3,c4,c5,c6]:=by
 match cs,h with
 |[c0,c1,c2,c3,c4,c5,c6],_=>exact ⟨c0,c1,c2,c3,c4,c5,c6,rfl⟩
theorem open_i {m:Nat} {v:Value} {y:DataW H×List MemPlace} (h:DataW.trod enc Tryz.prog w 0 (fun _=>true) true m 3 [v]=some y):∃k:Int,v=.int .i64 k:=by
 obtain ⟨s0,k0,_,_⟩:=DataW.trod_int Tryz.underlying3 h
 simp at k0
 exact ⟨s0,k0⟩
theorem open_ac {m:Nat} {cs:List Value} {x:DataW H×List MemPlace} (hl:cs.length=7) (h:DataW.trod enc Tryz.prog w 0 (fun _=>true) true m 49 cs=some x):∃a:Ac16,cs=a.cells∧a.In w∧a.m≤Rows.uptoBulk x.1:=by
 obtain ⟨y0,m0,t0,_⟩:=field_many Tryz.underlying49 h 0 _ rfl
 obtain ⟨y1,m1,t1,b1⟩:=field_many Tryz.underlying49 h 1 _ rfl
 obtain ⟨c0,c1,c2,c3,c4,c5,c6,rfl⟩:=list7 hl
 change DataW.trod enc Tryz.prog w 0 (fun _=>true) true m0 3 (([c0,c1,c2,c3,c4,c5,c6].drop 0).take (Tryz.prog.cellsOf 3))=some y0 at t0
 change DataW.trod enc Tryz.prog w 0 (fun _=>true) true m1 47 (([c0,c1,c2,c3,c4,c5,c6].drop 1).take (Tryz.prog.cellsOf 47))=some y1 at t1
 rw [cellsOp] at t1
 rw [show Tryz.prog.cellsOf 3=1 by kernel_rfl] at t0
 change DataW.trod enc Tryz.prog w 0 (fun _=>true) true m0 3 [c0]=some y0 at t0
 change DataW.trod enc Tryz.prog w 0 (fun _=>true) true m1 47 [c1,c2,c3,c4,c5,c6]=some y1 at t1
 have g:=field_ofB Tryz.underlying47 (by kernel_rfl) cellsOp t1
 obtain ⟨v0,z0,n0,e0,u0,_⟩:=g 0 _ rfl
 obtain ⟨v1,z1,n1,e1,u1,_⟩:=g 1 _ rfl
 obtain ⟨v2,z2,n2,e2,u2,_⟩:=g 2 _ rfl
 obtain ⟨v3,z3,n3,e3,u3,_⟩:=g 3 _ rfl
 obtain ⟨v4,z4,n4,e4,u4,_⟩:=g 4 _ rfl
 obtain ⟨v5,z5,n5,e5,u5,b5⟩:=g 5 _ rfl
 cases e0;cases e1;cases e2;cases e3;cases e4;cases e5
 obtain ⟨a,rfl⟩:=open_i t0
 obtain ⟨k0,rfl⟩:=open_i u0
 obtain ⟨k1,rfl⟩:=open_i u1
 obtain ⟨k2,rfl⟩:=open_i u2
 obtain ⟨k3,rfl⟩:=open_i u3
 obtain ⟨k4,rfl⟩:=open_i u4
 have hform:∃A1 n1 c1,c6=Value.slice A1 n1 c1:=by
  rcases open_slice1 Tryz.underlying24 cellsU8 u5 with ⟨h0,_⟩|⟨a,len,cap,_,_,_,_,_,hcs,_⟩
  · simp at h0
    exact ⟨_,_,_,h0⟩
  · simp at hcs
    exact ⟨_,_,_,hcs⟩
 obtain ⟨A1,j1,q1,rfl⟩:=hform
 obtain ⟨hc,_,hbk,L,hL⟩:=open_byB u5
 exact ⟨⟨a,k0,k1,k2,k3,k4,A1,j1,q1,L⟩,rfl,⟨hL,hc⟩,by simp only;omega⟩
theorem open_ac16 {A:Option Addr} {n c:Nat} {d:DataW H} {p:List MemPlace} (h:DataW.Trod enc Tryz.prog w 0 (fun _=>true) true 40 (.slice A n c) d p) (hk:Rows.uptoBulk d≤1048576):∃L:List Ac16,L.length=n∧n≤1048576∧EAt acE w A L∧(∀x∈L,x.In w)∧∀x∈L,x.m≤1048576:=by
 obtain ⟨_,hnb,hr⟩:=rows_ofB Tryz.underlying40 (by rw [cellsAct];omega) h
 rcases Nat.eq_zero_or_pos n with h0|hp
 · exact ⟨[],h0.symm,by omega,EAt.nil _ _ _,fun x hx=>(by cases hx),fun x hx=>(by cases hx)⟩
 obtain ⟨bl,o,rfl,hb,hc⟩:=hr hp
 have hall:∀k:Fin n,∃a:Ac16,(∀j v,a.cells[j]? =some v→w.cell? ⟨bl,o+k.1*7+j,none⟩=some v)∧a.In w∧a.m≤1048576:=fun k=>by
  obtain ⟨cs,m,x,hlen,ht,hbx,hat⟩:=hc k.1 k.2
  rw [cellsAct] at hat hlen
  obtain ⟨a,rfl,h1,h2⟩:=open_ac hlen ht
  refine ⟨a,fun j v hv=>?_,h1,by omega⟩
  have hj:j<7:=by have:=(jS.1 hv).1;omega
  rw [hat j hj]
  exact hv
 have hget:∀(i:Nat) (x:Ac16),(List.ofFn fun k=>Classical.choose (hall k))[i]? =some x→∃h:i<n,x=Classical.choose (hall ⟨i,h⟩):=fun i x hx=>by
  rw [List.getElem?_ofFn] at hx
  split at hx
  · rename_i h
    exact ⟨h,by cases hx;rfl⟩
  · cases hx
 refine ⟨List.ofFn fun k=>Classical.choose (hall k),List.length_ofFn,by omega,⟨fun _=>⟨bl,o,rfl,hb,fun i x hx j u hu=>?_⟩⟩,fun x hx=>?_,fun x hx=>?_⟩
 · obtain ⟨hi,rfl⟩:=hget i x hx
   exact (Classical.choose_spec (hall ⟨i,hi⟩)).1 j u hu
 · obtain ⟨i,hi⟩:=List.mem_iff_getElem?.1 hx
   obtain ⟨hi2,rfl⟩:=hget i x hi
   exact (Classical.choose_spec (hall ⟨i,hi2⟩)).2.1
 · obtain ⟨i,hi⟩:=List.mem_iff_getElem?.1 hx
   obtain ⟨hi2,rfl⟩:=hget i x hi
   exact (Classical.choose_spec (hall ⟨i,hi2⟩)).2.2
theorem sum_acs {L:List Ac16} (h:∀x∈L,x.m≤1048576):sumR (L.map Ac16.op)≤L.length*1048576:=by
 induction L with
 |nil=>exact Nat.zero_le _
 | cons x L ih=>
   have h1:=h x jM
   have h2:=ih fun y hy=>h y (jP hy)
   have e:sumR ((x::L).map Ac16.op)=x.m+sumR (L.map Ac16.op):=rfl
   rw [e,List.length_cons,Nat.succ_mul]
   omega
end
set_option maxRecDepth 100000
theorem cellsRg:Tryz.prog.cellsOf 62=3:=by kernel_rfl
theorem cellsSl:Tryz.prog.cellsOf 59=2:=by kernel_rfl
section
variable {H:Type} {enc:TypeId×Value→H} {w:World}
theorem open_ir {m:Nat} {v:Value} {y:DataW H×List MemPlace} (h:DataW.trod enc Tryz.prog w 0 (fun _=>true) true m 3 [v]=some y):∃k:Int,v=.int .i64 k∧i64R k:=by
 obtain ⟨s0,k0,_,hw⟩:=DataW.trod_int Tryz.underlying3 h
 simp at k0
 have hb: -9223372036854775808≤s0∧s0≤9223372036854775807:=by simpa [Lit.wf,IntKind.min,IntKind.max,IntKind.signed,IntKind.bits] using hw
 exact ⟨s0,k0,hb⟩
theorem open_rowE {E:Type} {sl el:TypeId} {k:Nat} (cells:E→List Value) (Pr:E→Prop) (hsl:Tryz.prog.underlying sl=some (.slice el)) (hk:Tryz.prog.cellsOf el=k) (hk0:0<k) (hcl:∀x,(cells x).length=k)
 (hop:∀(m:Nat) (cs:List Value) (x:DataW H×List MemPlace),cs.length=k→DataW.trod enc Tryz.prog w 0 (fun _=>true) true m el cs=some x→∃a:E,cs=cells a∧Pr a)
 {A:Option Addr} {n c:Nat} {d:DataW H} {p:List MemPlace} (h:DataW.Trod enc Tryz.prog w 0 (fun _=>true) true sl (.slice A n c) d p) (hb:Rows.uptoBulk d≤1048576):
 ∃L:List E,L.length=n∧n≤1048576∧(∀x∈L,Pr x)∧(0<n→∃g o,A=some ⟨g,o,none⟩∧g<w.heap.size∧∀(i:Nat) (x:E),L[i]? =some x→∀(j:Nat) (u:Value),(cells x)[j]? =some u→w.cell? ⟨g,o+i*k+j,none⟩=some u):=by
 obtain ⟨_,hnb,hr⟩:=rows_ofB hsl (by omega) h
 rcases Nat.eq_zero_or_pos n with h0|hp
 · exact ⟨[],h0.symm,by omega,fun x hx=>(by cases hx),fun hp=>by omega⟩
 obtain ⟨bl,o,rfl,hbl,hc⟩:=hr hp
 have hall:∀i:Fin n,∃a:E,(∀j v,(cells a)[j]? =some v→w.cell? ⟨bl,o+i.1*k+j,none⟩=some v)∧Pr a:=fun i=>by
  obtain ⟨cs,m,x,hlen,ht,hbx,hat⟩:=hc i.1 i.2
  rw [hk] at hat hlen
  obtain ⟨a,rfl,h1⟩:=hop m cs x hlen ht
  refine ⟨a,fun j v hv=>?_,h1⟩
  have hj:j<k:=by have:=(jS.1 hv).1;rw [hcl] at this;exact this
  rw [hat j hj]
  exact hv
 have hget:∀(i:Nat) (x:E),(List.ofFn fun i=>Classical.choose (hall i))[i]? =some x→∃h:i<n,x=Classical.choose (hall ⟨i,h⟩):=fun i x hx=>by
  rw [List.getElem?_ofFn] at hx
  split at hx
  · rename_i h
    exact ⟨h,by cases hx;rfl⟩
  · cases hx
 refine ⟨List.ofFn fun i=>Classical.choose (hall i),List.length_ofFn,by omega,fun x hx=>?_,fun _=>⟨bl,o,rfl,hbl,fun i x hx j u hu=>?_⟩⟩
 · obtain ⟨i,hi⟩:=List.mem_iff_getElem?.1 hx
   obtain ⟨hi2,rfl⟩:=hget i x hi
   exact (Classical.choose_spec (hall ⟨i,hi2⟩)).2
 · obtain ⟨hi,rfl⟩:=hget i x hx
   exact (Classical.choose_spec (hall ⟨i,hi⟩)).1 j u hu
theorem open_rgs {A:Option Addr} {n c:Nat} {d:DataW H} {p:List MemPlace} (h:DataW.Trod enc Tryz.prog w 0 (fun _=>true) true 41 (.slice A n c) d p) (hb:Rows.uptoBulk d≤1048576):∃L:List Rg,L.length=n∧n≤1048576∧RgAt w A L:=by
 obtain ⟨L,h1,h2,_,h4⟩:=open_rowE (fun x:Rg=>[.int .i64 x.lo,.int .i64 x.hi,.int .i64 x.pr]) (fun _=>True) Tryz.underlying41 cellsRg (by omega) (fun _=>rfl) (fun m cs x hl ht=>by
  have g:=field_ofB Tryz.underlying62 (by kernel_rfl) cellsRg ht
  obtain ⟨v0,z0,n0,e0,u0,_⟩:=g 0 _ rfl
  obtain ⟨v1,z1,n1,e1,u1,_⟩:=g 1 _ rfl
  obtain ⟨v2,z2,n2,e2,u2,_⟩:=g 2 _ rfl
  match cs,hl with
  | [c0,c1,c2],_=>
    cases e0;cases e1;cases e2
    obtain ⟨k0,rfl,_⟩:=open_ir u0
    obtain ⟨k1,rfl,_⟩:=open_ir u1
    obtain ⟨k2,rfl,_⟩:=open_ir u2
    exact ⟨⟨k0,k1,k2⟩,rfl,trivial⟩) h hb
 refine ⟨L,h1,h2,⟨fun hp=>?_⟩⟩
 obtain ⟨g,o,e,hg,hc⟩:=h4 (by omega)
 exact ⟨g,o,e,hg,fun i x hx=>⟨hc i x hx 0 _ rfl,hc i x hx 1 _ rfl,hc i x hx 2 _ rfl⟩⟩
theorem open_sls {A:Option Addr} {n c:Nat} {d:DataW H} {p:List MemPlace} (h:DataW.Trod enc Tryz.prog w 0 (fun _=>true) true 37 (.slice A n c) d p) (hb:Rows.uptoBulk d≤1048576):∃L:List (Int×Int),L.length=n∧n≤1048576∧EAt slE w A L∧∀x∈L,i64R x.1∧i64R x.2:=by
 obtain ⟨L,h1,h2,h3,h4⟩:=open_rowE (fun x:Int×Int=>slE.cells x) (fun x=>i64R x.1∧i64R x.2) Tryz.underlying37 cellsSl (by omega) (fun x=>slE.len x) (fun m cs x hl ht=>by
  have g:=field_ofB Tryz.underlying59 (by kernel_rfl) cellsSl ht
  obtain ⟨v0,z0,n0,e0,u0,_⟩:=g 0 _ rfl
  obtain ⟨v1,z1,n1,e1,u1,_⟩:=g 1 _ rfl
  match cs,hl with
  | [c0,c1],_=>
    cases e0;cases e1
    obtain ⟨k0,rfl,r0⟩:=open_ir u0
    obtain ⟨k1,rfl,r1⟩:=open_ir u1
    exact ⟨(k0,k1),rfl,r0,r1⟩) h hb
 refine ⟨L,h1,h2,⟨fun hp=>?_⟩,h3⟩
 obtain ⟨g,o,e,hg,hc⟩:=h4 (by omega)
 exact ⟨g,o,e,hg,fun i x hx j u hu=>hc i x hx j u hu⟩
end
end Go.Proofs.YtlhfjaagkgengaaGreat
