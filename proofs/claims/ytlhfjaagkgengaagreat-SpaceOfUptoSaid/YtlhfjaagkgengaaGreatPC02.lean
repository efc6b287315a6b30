/- Rows of elements, whatever they are: one's own, that grow; to be read; to be written. A range over a function that tells a list's elements, one by one. region: rows of regions; right, prot; Pieces. -/
import Derived.Test.YtlhfjaagkgengaaGreatPC01
import Derived.Maps.AppendAt
import Derived.RangeFuncWrites
import Derived.RangeFuncNested
import Derived.RangeFuncBound
import Derived.RangeFuncCalls
import Derived.RangeFuncLeaves
import Derived.Shelf.Abstract
import Derived.Shelf.RegionOpen
import Derived.OwnWalkIn
import Derived.TacticsInMore
import Derived.LoopNIn
import Derived.LoopIn
import Derived.Stop.RegionWithIn
namespace Go.Proofs.YtlhfjaagkgengaaGreat
set_option maxHeartbeats 4000000
open Go.RowKit
set_option linter.unusedVariables false
set_option linter.unusedSimpArgs false
structure El (E:Type) where
 sl:TypeId
 el:TypeId
 z:Value
 bytes:Nat
 k:Nat
 ht:Tryz.prog.underlying sl=some (.slice el)
 hi:(Tryz.prog.info? el).map (fun i=>(i.zero,i.size,i.bytes))=some (some z,k,bytes)
 hzs:z.cells.size=k
 hk:0<k∧k≤64
 hb64:bytes≤512
 cells:E→List Value
 len:∀x,(cells x).length=k
 one:∀x,∀u∈cells x,u.oneCell'=true
def elC {E:Type} (F:El E) (L:List E):List Value:=L.flatMap F.cells
def OwE {E:Type} (F:El E) (B:Nat) (w:World) (v:Value) (L:List E):Prop:=w.ownsRow B F.el F.k v L.length (elC F L)
structure EAt {E:Type} (F:El E) (w:World) (A:Option Addr) (L:List E):Prop where
 at_:0<L.length→∃g o,A=some ⟨g,o,none⟩∧g<w.heap.size∧∀(i:Nat) (x:E),L[i]? =some x→∀(j:Nat) (u:Value),(F.cells x)[j]? =some u→w.cell? ⟨g,o+i*F.k+j,none⟩=some u
def eO (A:Option Addr) (n:Nat) (k:Nat):Prop:=0<n∧∃o,A=some ⟨k,o,none⟩
section
variable {E:Type} {F:El E} {B:Nat} {w w' wa:World} {v:Value} {L M:List E} {S:Nat→Prop} {A:Option Addr}
theorem elC_len (F:El E) (L:List E):(elC F L).length=L.length*F.k:=by
 induction L with
 |nil=>simp [elC]
 | cons x L ih=>
   have h:=F.len x
   simp only [elC,List.flatMap_cons,List.length_append,List.length_cons] at ih ⊢
   rw [ih,h,Nat.succ_mul]
   omega
theorem elC_app (F:El E) (L M:List E):elC F (L ++ M)=elC F L ++ elC F M:=by simp [elC]
theorem elC_at (F:El E):∀(L:List E) (i:Nat) (x:E),L[i]? =some x→∀(j:Nat) (u:Value),(F.cells x)[j]? =some u→(elC F L)[i*F.k+j]? =some u
 |[],i,x,h,j,u,hu=>by simp at h
 | y::L,0,x,h,j,u,hu=>by
   simp at h
   subst h
   simp only [elC,List.flatMap_cons,Nat.zero_mul,Nat.zero_add]
   rw [List.getElem?_append_left (jS.1 hu).1]
   exact hu
 | y::L,i+1,x,h,j,u,hu=>by
   rw [List.getElem?_cons_succ] at h
   have ih:=elC_at F L i x h j u hu
   simp only [elC,List.flatMap_cons] at ih ⊢
   have hl:=F.len y
   rw [List.getElem?_append_right (by rw [hl,Nat.succ_mul];omega),hl,show (i+1)*F.k+j-F.k=i*F.k+j by rw [Nat.succ_mul];omega]
   exact ih
theorem elC_inv (F:El E) (L:List E) (j:Nat) (u:Value) (h:(elC F L)[j]? =some u):∃x,L[j / F.k]? =some x∧(F.cells x)[j%F.k]? =some u:=by
 have hj:j<L.length*F.k:=by rw [←elC_len];exact (jS.1 h).1
 have hd:j / F.k<L.length:=(Nat.div_lt_iff_lt_mul F.hk.1).2 hj
 obtain ⟨x,hx⟩:∃x,L[j / F.k]? =some x:=⟨_,jE hd⟩
 have hm:=Nat.mod_lt j F.hk.1
 obtain ⟨u',hu'⟩:∃u',(F.cells x)[j%F.k]? =some u':=⟨_,jE (by rw [F.len];exact hm)⟩
 have:=elC_at F L _ x hx _ u' hu'
 have e:j / F.k*F.k+j%F.k=j:=by rw [Nat.mul_comm];exact Nat.div_add_mod j F.k
 rw [e,h] at this
 exact ⟨x,hx,by rw [hu',this]⟩
theorem elC_one (F:El E) (L:List E):∀u∈elC F L,u.oneCell'=true:=fun u hu=>by
 obtain ⟨x,_,hx⟩:=List.mem_flatMap.1 hu
 exact F.one x u hx
theorem OwE.form (h:OwE F B w v L):∃A c,v=.slice A L.length c∧L.length≤c:=by
 rcases h.2 with ⟨rfl,h0⟩|⟨g,cap,cur,rfl,_,_,_,hc,_⟩
 · rw [h0];exact ⟨none,0,rfl,Nat.le_refl _⟩
 · exact ⟨_,cap,rfl,by omega⟩
theorem OwE.off (h:OwE F B w v L) (ho:Off S w w') (hs:∀k,v.ownBlock=some k→¬S k):OwE F B w' v L:=by
 refine ⟨h.1,?_⟩
 rcases h.2 with hn|⟨g,cap,cur,rfl,hb,hgg,rest⟩
 · exact .inl hn
 · exact .inr ⟨g,cap,cur,rfl,hb,(ho.block g (Array.getElem?_eq_some_iff.1 hgg).1 (hs g rfl)).trans hgg,rest⟩
theorem OwE.up (h:OwE F B w v L) (hb:Below w.heap.size w w'):OwE F B w' v L:=h.off (S:=fun _=>False) (Off.of_below hb) (fun _ _=>id)
theorem OwE.lt (h:OwE F B w v L) {k:Nat} (hk:v.ownBlock=some k):B≤k∧k<w.heap.size:=World.ownsRow.lt h k hk
theorem OwE.mono (h:OwE F B w v L) {B':Nat} (hb:B'≤B):OwE F B' w v L:=World.ownsRow.mono h hb
theorem addr0 (G j:Nat):(⟨G,0,none⟩:Addr).add j=⟨G,j,none⟩:=by unfold Addr.add;split<;>simp_all
theorem addrO (G o j:Nat):(⟨G,o,none⟩:Addr).add j=⟨G,o+j,none⟩:=by unfold Addr.add;split<;>simp_all
theorem OwE.rg {n c:Nat} (h:OwE F B w (.slice A n c) L):EAt F w A L:=⟨fun hp=>by
 obtain ⟨G,cap,hG,hcap,_⟩:=World.ownsRow.form h hp
 have hlt:=World.ownsRow.lt h
 have hrow:=h
 rw [hG] at hlt
 cases hG
 refine ⟨G,0,rfl,(hlt G rfl).2,fun i x hx j u hu=>?_⟩
 have c0:=World.ownsRow.cells hrow (g:=G) rfl _ _ (elC_at F L i x hx j u hu)
 rw [addr0] at c0
 rw [Nat.zero_add]
 exact c0⟩
theorem OwE.own {n c:Nat} (h:OwE F B w (.slice A n c) L) {k:Nat} (hk:eO A L.length k):(Value.slice A n c).ownBlock=some k:=by
 obtain ⟨hp,o,rfl⟩:=hk
 obtain ⟨G,cap,hG,_⟩:=World.ownsRow.form h hp
 cases hG
 rfl
theorem OwE.frozen {n c:Nat} (h:OwE F B w (.slice A n c) L) {k:Nat} (hk:(Value.slice A n c).ownBlock=some k) (j:Nat):w.frozen? ⟨k,j,none⟩=false:=by
 rcases h.2 with ⟨e,_⟩|⟨g,cap,cur,e,hb,hg,_⟩
 · rw [e] at hk;cases hk
 · rw [e] at hk
   cases hk
   unfold World.frozen?
   simp only
   rw [hg]
   simp
theorem OwE.nil (F:El E) (w:World) (B:Nat):OwE F B w (.slice none 0 0) []:=⟨by simp [elC],.inl ⟨rfl,rfl⟩⟩
theorem OwE.lit (F:El E) (w:World):OwE F w.heap.size (w.alloc (.cells #[] F.el)) (.slice (some ⟨w.heap.size,0,none⟩) 0 0) []:=
 ⟨by simp [elC],.inr ⟨w.heap.size,0,#[],rfl,Nat.le_refl _,heap_alloc_new w _,by simp [elC],by simp,by simp,by simp [elC]⟩⟩
theorem EAt.nil (F:El E) (w:World) (A:Option Addr):EAt F w A []:=⟨fun h=>by simp at h⟩
theorem EAt.off (h:EAt F w A L) (ho:Off S w w') (hs:∀k,S k→¬eO A L.length k):EAt F w' A L:=⟨fun hp=>by
 obtain ⟨g,o,rfl,hg,hc⟩:=h.at_ hp
 have hng:¬S g:=fun e=>hs g e ⟨hp,o,rfl⟩
 exact ⟨g,o,rfl,Nat.lt_of_lt_of_le hg ho.size,fun i x hx j u hu=>(ho.cell (p:=⟨g,_,none⟩) hg hng).trans (hc i x hx j u hu)⟩⟩
theorem EAt.up (h:EAt F w A L) (hb:Below w.heap.size w w'):EAt F w' A L:=h.off (S:=fun _=>False) (Off.of_below hb) (fun _=>False.elim)
theorem EAt.lt (h:EAt F w A L) {k:Nat} (hk:eO A L.length k):k<w.heap.size:=by
 obtain ⟨hp,o,rfl⟩:=hk
 obtain ⟨g,o',e,hg,_⟩:=h.at_ hp
 cases e
 exact hg
theorem EAt.take (h:EAt F w A L) (n:Nat):EAt F w A (L.take n):=⟨fun hp=>by
 obtain ⟨g,o,rfl,hg,hc⟩:=h.at_ (by rw [List.length_take] at hp;omega)
 exact ⟨g,o,rfl,hg,fun i x hx=>hc i x (by
  rw [List.getElem?_take] at hx
  split at hx
  · exact hx
  · cases hx)⟩⟩
theorem EAt.drop {g o n:Nat} (h:EAt F w (some ⟨g,o,none⟩) L):EAt F w (some ⟨g,o+n*F.k,none⟩) (L.drop n):=⟨fun hp=>by
 obtain ⟨g',o',e,hg,hc⟩:=h.at_ (by rw [List.length_drop] at hp;omega)
 cases e
 refine ⟨g,o+n*F.k,rfl,hg,fun i x hx j u hu=>?_⟩
 rw [List.getElem?_drop] at hx
 have:=hc _ x hx j u hu
 rw [show o+n*F.k+i*F.k+j=o+(n+i)*F.k+j by rw [Nat.add_mul];omega]
 exact this⟩
theorem OwE.app (h:OwE F B w v L) (hBw:B≤w.heap.size) {a:Addr} {m c:Nat} (hm:m=M.length) (hM:EAt F w (some a) M) (hlen:L.length+M.length≤4194304) (ty:TypeId):
 ∃A' c' w',(Builtin.append_ #[F.sl,F.sl] ty #[v,.slice (some a) m c]).run Tryz.prog w=.ok (.slice A' (L ++ M).length c') w'∧OwE F B w' (.slice A' (L ++ M).length c') (L ++ M)∧Off (fun k=>v.ownBlock=some k) w w'∧((Value.slice A' (L ++ M).length c').ownBlock=v.ownBlock∨(Value.slice A' (L ++ M).length c').ownBlock=some w.heap.size):=by
 subst hm
 obtain ⟨i0,hi,hz0,hz1,hz2⟩:=info_parts F.hi
 obtain ⟨v',w',hr,ho,hg,_,hat⟩:=run_append_own_at (P:=Tryz.prog) w B F.sl ty F.el i0 _ F.k F.bytes F.ht hi hz0 hz1 hz2 F.hzs F.hk.1 v L.length (elC F L) h a M.length c (elC F M)
  (elC_len F M) (fun j u hj=>by
   obtain ⟨x,hx,hxu⟩:=elC_inv F M j u hj
   have hp:0<M.length:=Nat.lt_of_le_of_lt (Nat.zero_le _) (jS.1 hx).1
   obtain ⟨g,o,e,hg,hc⟩:=hM.at_ hp
   cases e
   rw [addrO]
   have:=hc _ x hx _ u hxu
   have e2:j / F.k*F.k+j%F.k=j:=by rw [Nat.mul_comm];exact Nat.div_add_mod j F.k
   rw [Nat.add_assoc,e2] at this
   exact this) (elC_one F M) (by unfold maxLen;omega) (Nat.le_trans (Nat.mul_le_mul hlen F.hb64) (by decide)) hBw
 have ho':OwE F B w' v' (L ++ M):=by
  unfold OwE
  rw [List.length_append,elC_app]
  exact ho
 obtain ⟨A',c',rfl,_⟩:=ho'.form
 exact ⟨A',c',w',hr,ho',grown_off hg,hat⟩
theorem EAt.one (F:El E) (w:World) (x:E) (t:TypeId):EAt F (w.alloc (.cells (F.cells x).toArray t)) (some ⟨w.heap.size,0,none⟩) [x]:=⟨fun _=>⟨w.heap.size,0,rfl,by simp,fun i y hy j u hu=>by
 cases i with
 | zero=>
   simp at hy
   subst hy
   rw [Nat.zero_mul,Nat.zero_add,cell_of_row _ _ _ _ _ _ (heap_alloc_new w _)]
   simpa using hu
 |succ i=>simp at hy⟩⟩
theorem OwE.push (h:OwE F B w v L) (hBw:B≤w.heap.size) {g c:Nat} (x:E) (hx:EAt F w (some ⟨g,0,none⟩) [x]) (hlen:L.length≤4000000) (ty:TypeId):
 ∃A' c' w',(Builtin.append_ #[F.sl,F.sl] ty #[v,.slice (some ⟨g,0,none⟩) 1 c]).run Tryz.prog w=.ok (.slice A' (L.length+1) c') w'∧OwE F B w' (.slice A' (L.length+1) c') (L ++ [x])∧Off (fun k=>v.ownBlock=some k) w w'∧((Value.slice A' (L.length+1) c').ownBlock=v.ownBlock∨(Value.slice A' (L.length+1) c').ownBlock=some w.heap.size):=by
 obtain ⟨A',c',w',hr,ho,hof,hat⟩:=h.app (M:=[x]) (m:=1) (c:=c) hBw rfl hx (by simp;omega) ty
 rw [List.length_append,List.length_singleton] at hr ho hat
 exact ⟨A',c',w',hr,ho,hof,hat⟩
end
def FrE {E:Type} (F:El E) (w0 w:World) (v:Value) (L:List E):Prop:=OwE F w0.heap.size w v L∧Below w0.heap.size w0 w
section
variable {E:Type} {F:El E} {B:Nat} {w0 w w' wa:World} {v:Value} {L M:List E} {S:Nat→Prop} {A:Option Addr}
theorem FrE.nil (F:El E) (w:World):FrE F w w (.slice none 0 0) []:=⟨OwE.nil _ _ _,Below.refl _ _⟩
theorem FrE.up (h:FrE F w0 w v L) (hb:Below w.heap.size w w'):FrE F w0 w' v L:=⟨h.1.up hb,h.2.trans (hb.mono h.2.size)⟩
theorem FrE.lit (F:El E) (w:World):FrE F w (w.alloc (.cells #[] F.el)) (.slice (some ⟨w.heap.size,0,none⟩) 0 0) []:=⟨OwE.lit F w,jB.alloc jN _⟩
theorem FrE.push (h:FrE F w0 w v L) (x:E) (t:TypeId) (hlen:L.length≤4000000) (ty:TypeId):
 ∃A' c' w',(Builtin.append_ #[F.sl,F.sl] ty #[v,.slice (some ⟨w.heap.size,0,none⟩) 1 1]).run Tryz.prog (w.alloc (.cells (F.cells x).toArray t))=.ok (.slice A' (L.length+1) c') w'∧FrE F w0 w' (.slice A' (L.length+1) c') (L ++ [x])∧Off (fun k=>v.ownBlock=some k) w w':=by
 have hb:Below w.heap.size w (w.alloc (.cells (F.cells x).toArray t)):=jB.alloc jN _
 have hrow:=EAt.one F w x t
 have hob:Off (fun k=>v.ownBlock=some k) w (w.alloc (.cells (F.cells x).toArray t)):=Off.of_below hb
 generalize w.alloc (.cells (F.cells x).toArray t)=W1 at *
 have h1:=h.up hb
 have hs:=h.2.size
 have hbs:=hb.size
 obtain ⟨A',c',w',hr,ho,hof,hat⟩:=h1.1.push (by omega) (c:=1) x hrow hlen ty
 exact ⟨A',c',w',hr,⟨ho,h1.2.trans (hof.below (fun k e=>(h1.1.lt e).1) h1.2.size)⟩,hob.trans hof⟩
theorem FrE.app (h:FrE F w0 w v L) {a:Addr} {c:Nat} (hM:EAt F w (some a) M) (hlen:L.length+M.length≤4194304) (ty:TypeId):
 ∃A' c' w',(Builtin.append_ #[F.sl,F.sl] ty #[v,.slice (some a) M.length c]).run Tryz.prog w=.ok (.slice A' (L ++ M).length c') w'∧FrE F w0 w' (.slice A' (L ++ M).length c') (L ++ M)∧Off (fun k=>v.ownBlock=some k) w w':=by
 obtain ⟨A',c',w',hr,ho,hof,hat⟩:=h.1.app (m:=M.length) (c:=c) h.2.size rfl hM hlen ty
 exact ⟨A',c',w',hr,⟨ho,h.2.trans (hof.below (fun k e=>(h.1.lt e).1) h.2.size)⟩,hof⟩
end
set_option maxHeartbeats 4000000
theorem ent_fn {P:Program} {f:FuncId} {fn:Func} {c:Code} (hf:P.funcs[f]? =some fn) (hname:(fn.name== "runtime.NumGoroutine")=false) (hb:fn.body=some c) (args:Array Value) (w:World):(callFunc f args).run P w=.ok (.enter f args) w:=by
 have h1:fn.name≠ "runtime.NumGoroutine" :=by simpa using hname
 simp [callFunc,hf,h1,hb,mark]
def YdPost {α:Type} (Iv:World→(Nat→Prop)→α→Prop) (w:World) (O:Nat→Prop) (y:α×Bool) (e:Ending) (w':World):Prop:=
 ∃O':Nat→Prop,e=.returned (.bool y.2)∧Iv w' O' y.1∧Off O w w'∧∀k,O' k→O k∨w.heap.size≤k
structure YdL {α E:Type} (args:E→Array Value) (f:α→E→α×Bool) (al:α→Bool) where
 l:Nat
 Iv:World→(Nat→Prop)→α→Prop
 off:∀{S O:Nat→Prop} {w w':World} {a:α},Iv w O a→Off S w w'→(∀k,S k→¬O k)→Iv w' O a
 lt:∀{O:Nat→Prop} {w:World} {a:α} {k:Nat},Iv w O a→O k→k<w.heap.size
 call:∀{w:World} {O:Nat→Prop} {a:α} (x:E),Iv w O a→al a=true→YieldAt Fence.wide 8 Tryz.prog l (args x) w (YdPost Iv w O (f a x))
def foldL {α E:Type} (f:α→E→α×Bool):α→List E→α
 |a,[]=>a
 |a,x::xs=>if (f a x).2 then foldL f (f a x).1 xs else (f a x).1
def SqL {α E:Type} {args:E→Array Value} {f:α→E→α×Bool} {al:α→Bool} (Y:YdL args f al) (w:World) (Ov:Nat→Prop) (y:α) (e:Ending) (w':World):Prop:=
 ∃Ov':Nat→Prop,(∃v,e=.returned v)∧Y.Iv w' Ov' y∧Off Ov w w'∧∀k,Ov' k→Ov k∨w.heap.size≤k
theorem off_putObj (W:World) {l:Nat} (o:Obj):Off (· =l) W (W.putObj l o):=
 ⟨rfl,rfl,rfl,by simp,fun i _ hn=>World.putObj_heap_other hn⟩
def bdPost {α:Type} (al:α→Bool) (Iv:World→(Nat→Prop)→α→Prop) (Ix:Code→World→(Nat→Prop)→α→Prop) (O1:Nat→Prop) (W:World) (y:α):Exit→Act→World→Prop
 | .normal,_,W'=>al y=true∧∃O':Nat→Prop,Iv W' O' y∧Off O1 W W'∧∀k,O' k→O1 k∨W.heap.size≤k
 | .ret,_,W'=>al y=false∧∃O':Nat→Prop,Ix .ret W' O' y∧Off O1 W W'∧∀k,O' k→O1 k∨W.heap.size≤k
 | .exit id,_,W'=>al y=false∧∃O':Nat→Prop,Ix (.exit id) W' O' y∧Off O1 W W'∧∀k,O' k→O1 k∨W.heap.size≤k
 | .goto t,_,W'=>al y=false∧∃O':Nat→Prop,Ix (.goto t) W' O' y∧Off O1 W W'∧∀k,O' k→O1 k∨W.heap.size≤k
 | .panic _,_,_=>False
 | .outgrown,_,_=>False
structure LpAt {α:Type} (al:α→Bool) (Iv:World→(Nat→Prop)→α→Prop) (Ix:Code→World→(Nat→Prop)→α→Prop) (rec:LoopState→Option Code→Loop) (L D:Nat) (w:World) (O:Nat→Prop) (a:α) (O1:Nat→Prop):Prop where
 eqO:∀k,O k ↔ O1 k∨k=L∨k=D
 nL:¬O1 L
 nD:¬O1 D
 df:w.heap[D]? =some (.deferred (some []))
 yes:al a=true→Iv w O1 a∧w.heap[L]? =some (.loop (rec .ready none))
 no:al a=false→∃c,Ix c w O1 a∧w.heap[L]? =some (.loop (rec .done (some c)))
theorem heap_off {S:Nat→Prop} {w w':World} {k:Nat} {o:Obj} (h:w.heap[k]? =some o) (ho:Off S w w') (hs:¬S k):w'.heap[k]? =some o:=(ho.block k (Array.getElem?_eq_some_iff.1 h).1 hs).trans h
theorem range_listP {α E:Type} {gf:FuncId} {lb:Array Value} {g:Operand} {ps:Array Tmp} {assign body:Code} {Q:Exit→Act→World→Prop} {a:Act} {w:World} {Ov:Nat→Prop} {args:E→Array Value}
 (hent:∀(args:Array Value) (w:World),(callFunc gf args).run Tryz.prog w=.ok (.enter gf args) w)
 (hg:a.eval g=.func (.func gf) #[] lb) (hps:∀x,ps.size=(args x).size)
 (f:α→E→α×Bool) (al:α→Bool) (hal:∀x e,al x=true→(f x e).2=al (f x e).1)
 (Iv:World→(Nat→Prop)→α→Prop) (Ix:Code→World→(Nat→Prop)→α→Prop)
 (ivOff:∀{S O:Nat→Prop} {w w':World} {x:α},Iv w O x→Off S w w'→(∀k,S k→¬O k)→Iv w' O x) (ivLt:∀{O:Nat→Prop} {w:World} {x:α} {k:Nat},Iv w O x→O k→k<w.heap.size)
 (ixOff:∀{c:Code} {S O:Nat→Prop} {w w':World} {x:α},Ix c w O x→Off S w w'→(∀k,S k→¬O k)→Ix c w' O x) (ixLt:∀{c:Code} {O:Nat→Prop} {w:World} {x:α} {k:Nat},Ix c w O x→O k→k<w.heap.size)
 (a₁:E→World→Act) (Rel:E→World→World→Prop) (x0:α) (hx0:al x0=true) (Rr:α→Prop) (hi:Iv w Ov x0)
 (hiter:∀(Y:YdL args f al) (W1:World) (O1:Nat→Prop),Below w.heap.size w W1→Y.Iv W1 O1 x0→(∀k,O1 k→Ov k∨w.heap.size≤k)→Calls Tryz.prog gf (#[.func (.yield Y.l) #[] #[]] ++ lb) W1 fun e w'=>∃y,Rr y∧SqL Y W1 O1 y e w')
 (hassign:∀(l:Nat) (x:E) (W:World) (K:Act→World→Prop),(∀W',Below W.heap.size W W'→Rel x W W'→K (a₁ x W) W')→
  assign.wpIn (Fence.wide.inRound l) 8 Tryz.prog (Exit.then K (fun _ _ _=>False)) {tmps:=(ps.zip (args x)).foldl (fun t (p,v)=>t.setIfInBounds p v) a.tmps,defers:=[]} W)
 (hbody:∀(l:Nat) (x:α) (e:E) (W0 W' W:World) (O1:Nat→Prop),Iv W O1 x→al x=true→Below W0.heap.size W0 W'→Rel e W0 W'→Off (· =l) W' W→l<W0.heap.size→(∀k,O1 k→k<W0.heap.size)→body.wpIn (Fence.wide.inRound l) 8 Tryz.prog (bdPost al Iv Ix O1 W (f x e).1) (a₁ e W0) W)
 (hend:∀(D:Nat) (W:World) (O1:Nat→Prop) (y:α),Rr y→w.heap.size≤D→W.heap[D]? =some (.deferred (some []))→Off Ov w W→(∀k,O1 k→Ov k∨w.heap.size≤k)→
  (al y=true→Iv W O1 y→Q .normal {a with defers:={target:=.collected D,args:=#[]}::a.defers} W)∧
  (al y=false→∀c,Ix c W O1 y→c.wpIn Fence.wide 9 Tryz.prog Q {a with defers:={target:=.collected D,args:=#[]}::a.defers} W)):
 (Code.rangeFunc g ps assign body).wpIn Fence.wide 9 Tryz.prog Q a w:=by
 refine wpIn_rangeFunc ?_
 intro fn hfn
 obtain ⟨rec,hrec⟩:∃rec:LoopState→Option Code→Loop,rec=fun st pe=>{state:=st,pending:=pe,fn,tmps:=a.tmps,params:=ps,assign,body,defers:=w.heap.size}:=⟨_,rfl⟩
 obtain ⟨W1,hW1⟩:∃W1,(w.alloc (.deferred (some []))).alloc (.loop (rec .ready none))=W1:=⟨_,rfl⟩
 have hL1:W1.heap[w.heap.size+1]? =some (.loop (rec .ready none)):=by
  rw [←hW1];have:=World.alloc_heap_new (w.alloc (.deferred (some []))) (.loop (rec .ready none));rwa [World.size_alloc] at this
 have hK1:W1.heap[w.heap.size]? =some (.deferred (some [])):=by
  rw [←hW1];exact (Below.heap_alloc _ _ _ (by simp)).trans (World.alloc_heap_new w _)
 have hb1:Below w.heap.size w W1:=by
  rw [←hW1];exact ((Below.refl _ w).alloc jN _).alloc (by simp) _
 obtain ⟨L,hL⟩:∃L,w.heap.size+1=L:=⟨_,rfl⟩
 obtain ⟨D,hD⟩:∃D,w.heap.size=D:=⟨_,rfl⟩
 have hVlt:∀k,Ov k→k<w.heap.size:=fun k hk=>ivLt hi hk
 let Y : YdL args f al:={
  l:=L
  Iv:=fun w O x=>∃O1,LpAt al Iv Ix rec L D w O x O1
  off :=fun {S O w w' x} h ho hs=>by
   obtain ⟨O1,k⟩:=h
   have hs1:∀k',S k'→¬O1 k':=fun k' e e2=>hs k' e ((k.eqO k').2 (.inl e2))
   exact ⟨O1,k.eqO,k.nL,k.nD,heap_off k.df ho (fun e=>hs D e ((k.eqO D).2 (.inr (.inr rfl)))),fun e=>⟨ivOff (k.yes e).1 ho hs1,heap_off (k.yes e).2 ho (fun e=>hs L e ((k.eqO L).2 (.inr (.inl rfl))))⟩,fun e=>by
    obtain ⟨c,i1,i2⟩:=k.no e
    exact ⟨c,ixOff i1 ho hs1,heap_off i2 ho (fun e=>hs L e ((k.eqO L).2 (.inr (.inl rfl))))⟩⟩
  lt:=fun {O w x k} h hk=>by
   obtain ⟨O1,hh⟩:=h
   rcases (hh.eqO k).1 hk with e|e|e
   · cases hx:al x with
     |true=>exact ivLt (hh.yes hx).1 e
     |false=>obtain ⟨c,i1,_⟩:=hh.no hx;exact ixLt i1 e
   · rw [e]
     cases hx:al x with
     |true=>exact (Array.getElem?_eq_some_iff.1 (hh.yes hx).2).1
     |false=>obtain ⟨c,_,i2⟩:=hh.no hx;exact (Array.getElem?_eq_some_iff.1 i2).1
   · rw [e];exact (Array.getElem?_eq_some_iff.1 hh.df).1
  call:=fun {W O x} ex h hx=>by
   obtain ⟨O1,hh⟩:=h
   obtain ⟨hiv,hl⟩:=hh.yes hx
   have hy:=run_yield (P:=Tryz.prog) (args:=args ex) hl (by rw [hrec];exact (hps ex).symm)
   rw [hrec] at hy
   refine ⟨fn,_,assign,body,hy,roundIn_of_wpIn hfn (hassign _ ex W _ (fun Wn hbn hrel=>?_))⟩
   clear hy
   have hln:=heap_off hl (Off.of_below (S:=fun _=>False) hbn) id
   refine ⟨_,run_beginRound hln (by rw [hrec]),?_⟩
   have hlt:L<W.heap.size:=(Array.getElem?_eq_some_iff.1 hl).1
   have hltn:L<Wn.heap.size:=(Array.getElem?_eq_some_iff.1 hln).1
   have hbusy:=off_putObj Wn (l:=L) (.loop {rec .ready none with state:=.busy})
   have hl2:(Wn.putObj L (.loop {rec .ready none with state:=.busy})).heap[L]? =some (.loop {rec .ready none with state:=.busy}):=World.putObj_heap_same hltn
   have hivn:=ivOff hiv (Off.of_below (S:=fun _=>False) hbn) (fun _=>False.elim)
   have hdn:=heap_off hh.df (Off.of_below (S:=fun _=>False) hbn) id
   have hb2:=hbody L x ex W Wn _ O1 (ivOff hivn hbusy (fun k e e2=>hh.nL (by rw [←e];exact e2))) hx hbn hrel hbusy hlt (fun k hk=>ivLt hiv hk)
   have hLD:L≠D:=by omega
   have hd2:(Wn.putObj L (.loop {rec .ready none with state:=.busy})).heap[D]? =some (.deferred (some [])):=heap_off hdn hbusy (fun e=>hLD e.symm)
   have hsz2:W.heap.size≤(Wn.putObj L (.loop {rec .ready none with state:=.busy})).heap.size:=by have:=hbn.size;simp;omega
   have hoffn:Off (· =L) W (Wn.putObj L (.loop {rec .ready none with state:=.busy})):=((Off.of_below hbn).mono (fun _=>False.elim)).trans hbusy
   generalize Wn.putObj L (.loop {rec .ready none with state:=.busy})=Wb at *
   refine wpIn_mono hb2 ?_
   have hal2:=hal x ex hx
   generalize f x ex=y at *
   have fin:∀(jump:Option Code) (W3:World),Off O1 Wb W3→
    (Instr.endRound L jump).run Tryz.prog W3=.ok (.bool jump.isNone) (W3.putObj L (.loop (rec (if jump.isNone then .ready else .done) jump)))∧
    (W3.putObj L (.loop (rec (if jump.isNone then .ready else .done) jump))).heap[L]? =some (.loop (rec (if jump.isNone then .ready else .done) jump))∧
    (W3.putObj L (.loop (rec (if jump.isNone then .ready else .done) jump))).heap[D]? =some (.deferred (some []))∧Off (· =L) W3 (W3.putObj L (.loop (rec (if jump.isNone then .ready else .done) jump))):=fun jump W3 ho3=>by
    have hl3:=heap_off hl2 ho3 hh.nL
    have:=run_endRound (P:=Tryz.prog) jump hl3
    rw [hrec] at this ⊢
    exact ⟨this,World.putObj_heap_same (Array.getElem?_eq_some_iff.1 hl3).1,heap_off (heap_off hd2 ho3 hh.nD) (off_putObj W3 _) (fun e=>hLD e.symm),off_putObj W3 _⟩
   have hoff:∀{W3 W4:World},Off O1 Wb W3→Off (· =L) W3 W4→Off O W W4:=fun h3 h4=>
    ((hoffn.mono (fun k e=>by rw [e];exact (hh.eqO L).2 (.inr (.inl rfl)))).trans (h3.mono fun k e=>(hh.eqO k).2 (.inl e))).trans (h4.mono (fun k e=>by rw [e];exact (hh.eqO L).2 (.inr (.inl rfl))))
   have hgrow:∀{O':Nat→Prop},(∀k,O' k→O1 k∨Wb.heap.size≤k)→¬O' L∧¬O' D∧∀k,(O' k∨k=L∨k=D)→O k∨W.heap.size≤k:=fun hO'=>
    ⟨fun e=>(hO' L e).elim hh.nL (fun e=>by omega),fun e=>(hO' D e).elim hh.nD (fun e=>by have:=(Array.getElem?_eq_some_iff.1 hh.df).1;omega),fun k e=>by
     rcases e with e|e
     · exact (hO' k e).imp (fun e=>(hh.eqO k).2 (.inl e)) (fun e=>by omega)
     · exact .inl ((hh.eqO k).2 (.inr e))⟩
   have stop:∀(c:Code) (W3:World) (O':Nat→Prop),al y.1=false→Ix c W3 O' y.1→Off O1 Wb W3→(∀k,O' k→O1 k∨Wb.heap.size≤k)→∃v w',(Instr.endRound L (some c)).run Tryz.prog W3=.ok v w'∧YdPost (fun w O x=>∃O1,LpAt al Iv Ix rec L D w O x O1) W O y (.returned v) w':=fun c W3 O' hf hix ho3 hO'=>by
    obtain ⟨e1,e2,e3,e4⟩:=fin (some c) W3 ho3
    obtain ⟨n1,n2,n3⟩:=hgrow hO'
    refine ⟨_,_,e1,fun k=>O' k∨k=L∨k=D,by rw [hal2,hf];rfl,⟨O',fun k=>Iff.rfl,n1,n2,e3,(fun e=>by rw [hf] at e;cases e),fun _=>⟨c,ixOff hix e4 (fun k e e2=>n1 (by rw [←e];exact e2)),e2⟩⟩,hoff ho3 e4,n3⟩
   rintro e a3 W3 hp
   cases e with
   | normal=>
     obtain ⟨hf,O',hix,ho3,hO'⟩:=hp
     obtain ⟨e1,e2,e3,e4⟩:=fin none W3 ho3
     obtain ⟨n1,n2,n3⟩:=hgrow hO'
     exact ⟨_,_,e1,fun k=>O' k∨k=L∨k=D,by rw [hal2,hf];rfl,⟨O',fun k=>Iff.rfl,n1,n2,e3,fun _=>⟨ivOff hix e4 (fun k e e2=>n1 (by rw [←e];exact e2)),e2⟩,(fun e=>by rw [hf] at e;cases e)⟩,hoff ho3 e4,n3⟩
   |ret=>obtain ⟨hf,O',hix,ho3,hO'⟩:=hp;exact stop .ret W3 O' hf hix ho3 hO'
   |exit id=>obtain ⟨hf,O',hix,ho3,hO'⟩:=hp;exact stop (.exit id) W3 O' hf hix ho3 hO'
   |goto t=>obtain ⟨hf,O',hix,ho3,hO'⟩:=hp;exact stop (.goto t) W3 O' hf hix ho3 hO'
   |panic ch=>exact hp.elim
   |outgrown=>exact hp.elim}
 refine ⟨L,[{target:=.collected w.heap.size,args:=#[]}],W1,{target:=.fn (.func gf) lb,args:=#[.func (.yield L) #[] #[]]},W1,gf,
  #[.func (.yield L) #[] #[]] ++ lb,W1,?_,?_,?_,?_,fun _=>by omega,?_⟩
 · rw [←hW1,hrec,←hL];exact run_enterLoop_outer _ _ _ _ _
 · simp only [resolve,hg]
   simp [go_sem]
 · intro f' hf';trivial
 · simp [invoke,go_sem,hent]
 · have hivY:Y.Iv W1 (fun k=>Ov k∨k=L∨k=D) x0:=⟨Ov,fun k=>Iff.rfl,fun e=>by have:=hVlt _ e;omega,fun e=>by have:=hVlt _ e;omega,by rw [←hD];exact hK1,fun _=>⟨ivOff hi (Off.of_below (S:=fun _=>False) hb1) (fun _=>False.elim),by rw [←hL];exact hL1⟩,fun e=>by rw [hx0] at e;cases e⟩
   have hsq:=hiter Y W1 (fun k=>Ov k∨k=L∨k=D) hb1 hivY (fun k e=>by
    rcases e with e|e|e
    · exact .inl e
    · exact .inr (by omega)
    · exact .inr (by omega))
   refine (callsIn_wide.2 hsq).mono ?_
   rintro e W2 ⟨y,hy,Ov',⟨v,rfl⟩,⟨O1,hh⟩,hof,hO'⟩
   have hofw:Off Ov w W2:=((Off.of_below hb1).mono (fun _=>False.elim)).late hof fun i hl hi=>by
    rcases hi with e|e|e
    · exact e
    · omega
    · omega
   have hO1:∀k,O1 k→Ov k∨w.heap.size≤k:=fun k e=>by
    have:=hb1.size
    rcases hO' k ((hh.eqO k).2 (.inl e)) with (e2|e2|e2)|e2
    · exact .inl e2
    · exact .inr (by omega)
    · exact .inr (by omega)
    · exact .inr (by omega)
   have hLD:L≠D:=by omega
   have endL:∀(st:LoopState) (pe:Option Code),W2.heap[L]? =some (.loop (rec st pe))→st≠.busy→∃W3,(Instr.endLoop L).run Tryz.prog W2=.ok pe W3∧Off (· =L) W2 W3:=fun st pe hl hst=>by
    have:=run_endLoop (P:=Tryz.prog) hl (by rw [hrec];exact hst)
    rw [hrec] at this
    exact ⟨_,this,off_putObj W2 _⟩
   cases hx:al y with
   | true=>
     obtain ⟨i1,i2⟩:=hh.yes hx
     obtain ⟨W3,e1,e2⟩:=endL _ _ i2 (by simp)
     refine ⟨none,W3,e1,?_⟩
     rw [hD]
     exact (hend D W3 O1 y hy (by omega) (heap_off hh.df e2 (fun e=>hLD e.symm)) (hofw.late e2 fun i hl e=>by omega) hO1).1 hx (ivOff i1 e2 (fun k e e3=>hh.nL (by rw [←e];exact e3)))
   | false=>
     obtain ⟨c,i1,i2⟩:=hh.no hx
     obtain ⟨W3,e1,e2⟩:=endL _ _ i2 (by simp)
     refine ⟨some c,W3,e1,?_⟩
     rw [hD]
     exact (hend D W3 O1 y hy (by omega) (heap_off hh.df e2 (fun e=>hLD e.symm)) (hofw.late e2 fun i hl e=>by omega) hO1).2 hx c (ixOff i1 e2 (fun k e e3=>hh.nL (by rw [←e];exact e3)))
theorem range_list {α E:Type} {gf:FuncId} {lb:Array Value} {g:Operand} {ps:Array Tmp} {assign body:Code} {Q:Exit→Act→World→Prop} {a:Act} {w:World} {Ov:Nat→Prop} {args:E→Array Value}
 (hent:∀(args:Array Value) (w:World),(callFunc gf args).run Tryz.prog w=.ok (.enter gf args) w)
 (hg:a.eval g=.func (.func gf) #[] lb) (hps:∀x,ps.size=(args x).size)
 (f:α→E→α×Bool) (al:α→Bool) (hal:∀x e,al x=true→(f x e).2=al (f x e).1)
 (Iv:World→(Nat→Prop)→α→Prop) (Ix:Code→World→(Nat→Prop)→α→Prop)
 (ivOff:∀{S O:Nat→Prop} {w w':World} {x:α},Iv w O x→Off S w w'→(∀k,S k→¬O k)→Iv w' O x) (ivLt:∀{O:Nat→Prop} {w:World} {x:α} {k:Nat},Iv w O x→O k→k<w.heap.size)
 (ixOff:∀{c:Code} {S O:Nat→Prop} {w w':World} {x:α},Ix c w O x→Off S w w'→(∀k,S k→¬O k)→Ix c w' O x) (ixLt:∀{c:Code} {O:Nat→Prop} {w:World} {x:α} {k:Nat},Ix c w O x→O k→k<w.heap.size)
 (a₁:E→World→Act) (Rel:E→World→World→Prop) (x0:α) (hx0:al x0=true) (xs:List E) (hi:Iv w Ov x0)
 (hiter:∀(Y:YdL args f al) (W1:World) (O1:Nat→Prop),Below w.heap.size w W1→Y.Iv W1 O1 x0→(∀k,O1 k→Ov k∨w.heap.size≤k)→Calls Tryz.prog gf (#[.func (.yield Y.l) #[] #[]] ++ lb) W1 (SqL Y W1 O1 (foldL f x0 xs)))
 (hassign:∀(l:Nat) (x:E) (W:World) (K:Act→World→Prop),(∀W',Below W.heap.size W W'→Rel x W W'→K (a₁ x W) W')→
  assign.wpIn (Fence.wide.inRound l) 8 Tryz.prog (Exit.then K (fun _ _ _=>False)) {tmps:=(ps.zip (args x)).foldl (fun t (p,v)=>t.setIfInBounds p v) a.tmps,defers:=[]} W)
 (hbody:∀(l:Nat) (x:α) (e:E) (W0 W' W:World) (O1:Nat→Prop),Iv W O1 x→al x=true→Below W0.heap.size W0 W'→Rel e W0 W'→Off (· =l) W' W→l<W0.heap.size→(∀k,O1 k→k<W0.heap.size)→body.wpIn (Fence.wide.inRound l) 8 Tryz.prog (bdPost al Iv Ix O1 W (f x e).1) (a₁ e W0) W)
 (hend:∀(D:Nat) (W:World) (O1:Nat→Prop) (y:α),y=foldL f x0 xs→w.heap.size≤D→W.heap[D]? =some (.deferred (some []))→Off Ov w W→(∀k,O1 k→Ov k∨w.heap.size≤k)→
  (al y=true→Iv W O1 y→Q .normal {a with defers:={target:=.collected D,args:=#[]}::a.defers} W)∧
  (al y=false→∀c,Ix c W O1 y→c.wpIn Fence.wide 9 Tryz.prog Q {a with defers:={target:=.collected D,args:=#[]}::a.defers} W)):
 (Code.rangeFunc g ps assign body).wpIn Fence.wide 9 Tryz.prog Q a w:=
 range_listP hent hg hps f al hal Iv Ix ivOff ivLt ixOff ixLt a₁ Rel x0 hx0 (fun y=>y=foldL f x0 xs) hi (fun Y W1 O1 h1 h2 h3=>(hiter Y W1 O1 h1 h2 h3).mono fun e w' h=>⟨_,rfl,h⟩) hassign hbody hend
set_option maxHeartbeats 4000000
structure Rg where
 lo:Int
 hi:Int
 pr:Int
deriving DecidableEq
def Rg.v (x:Rg):Value:=.agg #[.int .i64 x.lo,.int .i64 x.hi,.int .i64 x.pr]
structure RgAt (w:World) (A:Option Addr) (L:List Rg):Prop where
 at_:0<L.length→∃g o,A=some ⟨g,o,none⟩∧g<w.heap.size∧∀(i:Nat) (x:Rg),L[i]? =some x→w.cell? ⟨g,o+i*3,none⟩=some (.int .i64 x.lo)∧w.cell? ⟨g,o+i*3+1,none⟩=some (.int .i64 x.hi)∧w.cell? ⟨g,o+i*3+2,none⟩=some (.int .i64 x.pr)
def rgO (A:Option Addr) (n:Nat) (k:Nat):Prop:=0<n∧∃o,A=some ⟨k,o,none⟩
section
variable {w w':World} {A:Option Addr} {L:List Rg} {S:Nat→Prop}
theorem RgAt.nil (w:World) (A:Option Addr):RgAt w A []:=⟨fun h=>by simp at h⟩
theorem RgAt.off (h:RgAt w A L) (ho:Off S w w') (hs:∀k,S k→¬rgO A L.length k):RgAt w' A L:=⟨fun hp=>by
 obtain ⟨g,o,rfl,hg,hc⟩:=h.at_ hp
 have hng:¬S g:=fun e=>hs g e ⟨hp,o,rfl⟩
 exact ⟨g,o,rfl,Nat.lt_of_lt_of_le hg ho.size,fun i x hx=>by
  obtain ⟨c0,c1,c2⟩:=hc i x hx
  exact ⟨(ho.cell (p:=⟨g,_,none⟩) hg hng).trans c0,(ho.cell (p:=⟨g,_,none⟩) hg hng).trans c1,(ho.cell (p:=⟨g,_,none⟩) hg hng).trans c2⟩⟩⟩
theorem RgAt.up (h:RgAt w A L) (hb:Below w.heap.size w w'):RgAt w' A L:=h.off (S:=fun _=>False) (Off.of_below hb) (fun _=>False.elim)
theorem RgAt.lt (h:RgAt w A L) {k:Nat} (hk:rgO A L.length k):k<w.heap.size:=by
 obtain ⟨hp,o,rfl⟩:=hk
 obtain ⟨g,o',e,hg,_⟩:=h.at_ hp
 cases e
 exact hg
end
def protB (p:Int):Bool:=decide (0≤p∧p≤3)
def rightB (lo hi p:Int):Bool:=decide (0≤lo∧lo<hi) && protB p
theorem prot_any (w:World) (p:Int):Calls Tryz.prog 158 #[.int .i64 p] w fun e w'=>e=.returned (.bool (protB p))∧w'=w:=by
 unfold protB
 by_cases h1:0≤p
 · by_cases h2:p≤3
   · rw [show decide (0≤p∧p≤3)=true from decide_eq_true ⟨h1,h2⟩]
     go_enter Tryz.func158,Tryz.ntmps158
     go_wp2
     go_ret
     exact ⟨by simp [h1,h2],rfl⟩
   · rw [show decide (0≤p∧p≤3)=false from decide_eq_false fun h=>h2 h.2]
     go_enter Tryz.func158,Tryz.ntmps158
     go_wp2
     go_ret
     exact ⟨by simp [h1,h2],rfl⟩
 · rw [show decide (0≤p∧p≤3)=false from decide_eq_false fun h=>h1 h.1]
   go_enter Tryz.func158,Tryz.ntmps158
   go_wp2
   go_ret
   exact ⟨rfl,rfl⟩
theorem rright_any (w:World) (lo hi p:Int):Calls Tryz.prog 143 #[.int .i64 lo,.int .i64 hi,.int .i64 p] w fun e w'=>e=.returned (.bool (rightB lo hi p))∧w'=w:=by
 obtain ⟨z,hz⟩:∃z,protB p=z:=⟨_,rfl⟩
 have HP:Hid (Calls Tryz.prog 158 #[.int .i64 p] w fun e w'=>e=.returned (.bool z)∧w'=w):=hJ (by rw [←hz];exact prot_any w p)
 unfold rightB
 rw [hz]
 clear hz
 by_cases h1:0≤lo
 · by_cases h2:lo<hi
   · rw [show decide (0≤lo∧lo<hi)=true from decide_eq_true ⟨h1,h2⟩]
     go_enter Tryz.func143,Tryz.ntmps143
     go_wp2_with (go_at_call 158;refine HP.out.mono ?_;rintro e w' ⟨rfl,rfl⟩)
     go_ret
     exact ⟨by simp,rfl⟩
   · rw [show decide (0≤lo∧lo<hi)=false from decide_eq_false fun h=>h2 h.2]
     go_enter Tryz.func143,Tryz.ntmps143
     go_wp2
     go_ret
     exact ⟨rfl,rfl⟩
 · rw [show decide (0≤lo∧lo<hi)=false from decide_eq_false fun h=>h1 h.1]
   go_enter Tryz.func143,Tryz.ntmps143
   go_wp2
   go_ret
   exact ⟨rfl,rfl⟩
def maxI (a b:Int):Int:=if a<b then b else a
def minI (a b:Int):Int:=if b<a then b else a
def pieceR (lo hi:Int) (x:Rg):Rg:=⟨maxI x.lo lo,minI x.hi hi,x.pr⟩
def piecesF (L:List Rg) (lo hi:Int):List Rg:=(L.map (pieceR lo hi)).filter fun x=>decide (x.lo<x.hi)
end Go.Proofs.YtlhfjaagkgengaaGreat
