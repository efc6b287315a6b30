/- Helpers that hold over any program: worlds above another one; a region that draws its order and whose calls make new memory alone. Worlds that differ in some blocks alone; maps as functions from keys  -/
import Derived.Lib.Hide
import Derived.Test.YtlhfjaagkgengaaGreatRows
import Derived.WalkKit
import Derived.Handy
import Derived.Lib.Hide
import Derived.WalkSmall
import Derived.Deep.QuietTactic
import Derived.BigQuiet
import Derived.Deep.Slices
import Derived.Deep.Fields
import Derived.ChangeSame
import Derived.Deep.AppendLies
import Derived.Deep.Draws
import Derived.Maps.AppendAt
import Derived.RegionTactic
import Derived.OwnWalk
import Derived.WalkSpells
import Derived.Deep.DeepFit
import Derived.Deep.LoopGhost
import Derived.Deep.Cut
import Derived.Deep.DeepCutAuto
import Derived.StillTailTactics
import Derived.Deep.RegionHeld3
import Derived.Maps.OwnOps
import Derived.DeepKeys4
import Derived.Deep.Onto
import Derived.Laws.IdiomStrings
import Derived.Laws.BytesArg
namespace Go.Proofs.YtlhfjaagkgengaaGreat
set_option maxRecDepth 100000
set_option maxHeartbeats 1000000
open Go.RowKit
set_option linter.unusedVariables false
theorem hJ {p:Prop} (h:p):Hid p:=Lib.hid h
theorem jN {n:Nat}:n≤n:=Nat.le_refl n
theorem jB {n:Nat} {w:World}:Below n w w:=Below.refl n w
theorem jS {α:Type _} {l:List α} {i:Nat} {a:α}:l[i]? =some a ↔ ∃h:i<l.length,l[i]=a:=List.getElem?_eq_some_iff
theorem jM {α:Type _} {a:α} {l:List α}:a∈a::l:=List.mem_cons_self
theorem jE {α:Type _} {l:List α} {i:Nat} (h:i<l.length):l[i]? =some l[i]:=List.getElem?_eq_getElem h
theorem jG {α:Type _} {l:List α} {i:Nat} {a:α} (h:l[i]? =some a):a∈l:=List.mem_of_getElem? h
theorem jP {α:Type _} {a b:α} {l:List α} (h:b∈l):b∈a::l:=List.mem_cons_of_mem a h
theorem ret_bool {a b:Bool} (h:a=b):Ending.returned (.bool a)=.returned (.bool b):=by rw [h]
theorem ret_int {k:IntKind} {a b:Int} (h:a=b):Ending.returned (.int k a)=.returned (.int k b):=by rw [h]
structure Up (w:World) where
 world:World
 h:Below w.heap.size w world
instance (w:World):Nonempty (Up w):=⟨⟨w,Below.refl _ _⟩⟩
@[simp,go_sem] theorem Up.cell {w:World} (g:Up w) {b o:Nat} (hb:b<w.heap.size):g.world.cell? ⟨b,o,none⟩=w.cell? ⟨b,o,none⟩:=g.h.cell (p:=⟨b,o,none⟩) hb
theorem below_drewN {B:Nat} {a w:World} (h:Below B a w) (n:Nat):Below B a (w.drewN n):=⟨h.os,h.tape,h.output,h.size,h.block⟩
theorem below_upto {a b c:World} {B:Nat} (h:Below B a b) (k:Below b.heap.size b c) (hB:B≤a.heap.size):Below B a c:=h.trans (k.mono (Nat.le_trans hB h.size))
theorem wp_forget {P:Program} {c:Code} {Q:Exit→Act→World→Prop} {a:Act} {w:World} (R:World→Prop) (h:R w) (H:∀w',R w'→c.wp P Q a w'):c.wp P Q a w:=H w h
section
variable {P:Program}
theorem wp_region_up {id:Nat} {Q:Exit→Act→World→Prop} {a:Act} {w:World} {l:List Oper} (hm:P.follows .mixedOrders=true) (hB:Region.lexB .any l.toArray=true)
 (h:wpQuiet P l.toArray (fun w'=>∃g:Up w,w'=g.world) (fun a'=>∀w',(∃g:Up w,w'=g.world)→Q .normal a' w') l a):(Code.region id l.toArray true).wp P Q a w:=
 wp_region_quiet (C:=fun w'=>∃g:Up w,w'=g.world) hm hB ⟨⟨_,jB.drew⟩,rfl⟩ (by simpa using h)
theorem Calls.up_of {f:FuncId} {args:Array Value} {w:World} {g:Up w} {v:Value}
 (h:Calls P f args g.world fun e w'=>e=.returned v∧Below g.world.heap.size g.world w'):Calls P f args g.world fun e w''=>e=.returned v∧∃g':Up w,w''=g'.world:=
 h.mono fun _ w1 ⟨he,hb⟩=>⟨he,⟨w1,g.h.trans (hb.mono g.h.size)⟩,rfl⟩
end
set_option maxRecDepth 100000
set_option maxHeartbeats 1000000
open Go.RowKit Go.Maps Go.MapKept
open Go.ChangeMaps (setBlock modify_eq_set)
set_option linter.unusedSimpArgs false
structure Off (S:Nat→Prop) (w w':World):Prop where
 os:w'.os=w.os
 tape:w'.tape=w.tape
 output:w'.output=w.output
 size:w.heap.size≤w'.heap.size
 block:∀k,k<w.heap.size→¬S k→w'.heap[k]? =w.heap[k]?
theorem Off.refl (S:Nat→Prop) (w:World):Off S w w:=⟨rfl,rfl,rfl,Nat.le_refl _,fun _ _ _=>rfl⟩
theorem Off.trans {S:Nat→Prop} {a b c:World} (h:Off S a b) (k:Off S b c):Off S a c:=
 ⟨k.os.trans h.os,k.tape.trans h.tape,k.output.trans h.output,Nat.le_trans h.size k.size,fun i hi hs=>(k.block i (Nat.lt_of_lt_of_le hi h.size) hs).trans (h.block i hi hs)⟩
theorem Off.mono {S S':Nat→Prop} {a b:World} (h:Off S a b) (hs:∀k,S k→S' k):Off S' a b:=
 ⟨h.os,h.tape,h.output,h.size,fun i hi hn=>h.block i hi fun x=>hn (hs i x)⟩
theorem Off.of_below {S:Nat→Prop} {a b:World} (h:Below a.heap.size a b):Off S a b:=⟨h.os,h.tape,h.output,h.size,fun i hi _=>h.block i hi⟩
theorem Off.below {S:Nat→Prop} {a b:World} {B:Nat} (h:Off S a b) (hs:∀k,S k→B≤k) (hB:B≤a.heap.size):Below B a b:=
 ⟨h.os,h.tape,h.output,h.size,fun i hi=>h.block i (by omega) fun x=>by have:=hs i x;omega⟩
theorem Off.alloc {S:Nat→Prop} {a w:World} (h:Off S a w) (o:Obj):Off S a (w.alloc o):=h.trans (Off.of_below (jB.alloc jN o))
theorem Off.drew {S:Nat→Prop} {a w:World} (h:Off S a w):Off S a w.drew:=⟨h.os,h.tape,h.output,h.size,h.block⟩
theorem Off.setCell {S:Nat→Prop} {a w:World} (h:Off S a w) {p:Addr} (hp:S p.block) (u:Value):Off S a (w.setCell p u):=
 h.trans ⟨rfl,rfl,rfl,by simp [World.setCell],fun k hk hn=>Below.heap_setCell _ _ _ _ (fun e=>hn (e ▸ hp))⟩
theorem Off.step {S:Nat→Prop} {a b c:World} (h:Off S a b) (k:Below b.heap.size b c):Off S a c:=h.trans (Off.of_below k)
theorem Off.late {S S':Nat→Prop} {a b c:World} (h:Off S a b) (k:Off S' b c) (hs:∀i,i<a.heap.size→S' i→S i):Off S a c:=
 ⟨k.os.trans h.os,k.tape.trans h.tape,k.output.trans h.output,Nat.le_trans h.size k.size,fun i hi hn=>(k.block i (Nat.lt_of_lt_of_le hi h.size) fun x=>hn (hs i hi x)).trans (h.block i hi hn)⟩
theorem Off.cell {S:Nat→Prop} {w w':World} (h:Off S w w') {p:Addr} (hp:p.block<w.heap.size) (hs:¬S p.block):w'.cell? p=w.cell? p:=World.cell?_of_block (w:=w) (h.block p.block hp hs)
theorem Off.frozen {S:Nat→Prop} {w w':World} (h:Off S w w') {p:Addr} (hp:p.block<w.heap.size) (hs:¬S p.block):w'.frozen? p=w.frozen? p:=World.frozen?_of_block (w:=w) (h.block p.block hp hs)
theorem lt_of_cell {w:World} {b o:Nat} {v:Value} (h:w.cell? ⟨b,o,none⟩=some v):b<w.heap.size:=by
 rcases Nat.lt_or_ge b w.heap.size with h1|h1
 · exact h1
 · simp [World.cell?,Array.getElem?_eq_none h1] at h
def MapIs (P:Program) (k:TypeId) (w:World) (b:Nat) (f:Value→Option Value) (c:Nat):Prop:=
 ∃ es clock,w.heap[b]? =some (.map es clock)∧Stamped es clock∧es.size=c∧(∀x∈es.toList,∃l,keyOf P k x.key=some l)∧
   (∀x∈es.toList,f x.key=some x.val)∧(∀key v,f key=some v→∃x∈es.toList,x.key=key)
open Classical in
noncomputable def putK (f:Value→Option Value) (key v:Value):Value→Option Value:=fun x=>if x=key then some v else f x
open Classical in
noncomputable def delK (f:Value→Option Value) (key:Value):Value→Option Value:=fun x=>if x=key then none else f x
section
variable {P:Program} {k t e:TypeId} {w:World} {b c:Nat} {f:Value→Option Value}
theorem MapIs.lt (h:MapIs P k w b f c):b<w.heap.size:=by
 obtain ⟨es,clock,hb,_⟩:=h
 exact (Array.getElem?_eq_some_iff.1 hb).1
theorem MapIs.no_cell (h:MapIs P k w b f c) (o:Nat):w.cell? ⟨b,o,none⟩=none:=by
 obtain ⟨es,clock,hb,_⟩:=h
 simp [World.cell?,hb]
theorem MapIs.of_block {w':World} (h:MapIs P k w b f c) (hb:w'.heap[b]? =w.heap[b]?):MapIs P k w' b f c:=by
 obtain ⟨es,clock,h1,h2⟩:=h
 exact ⟨es,clock,hb.trans h1,h2⟩
theorem MapIs.off {w':World} {S:Nat→Prop} (h:MapIs P k w b f c) (ho:Off S w w') (hs:¬S b):MapIs P k w' b f c:=h.of_block (ho.block b h.lt hs)
theorem MapIs.made (w:World):MapIs P k (w.alloc (.map #[] 0)) w.heap.size (fun _=>none) 0:=
 ⟨#[],0,(MapKept.heap_alloc w _).1,stamped_empty 0,rfl,by simp,by simp,by simp⟩
theorem MapIs.look (h:MapIs P k w b f c) (K:Keyed P k) (ht:P.underlying t=some (.map k e)) {z:Value} (hz:(zeroValue e).run P w=.ok z w) {key:Value} {kl:Lit} (hkey:keyOf P k key=some kl) (ok:Bool):
 (Instr.lookup t (.map (some b)) key ok).run P w=.ok (if ok then .tuple #[(f key).getD z,.bool (f key).isSome] else (f key).getD z) w:=by
 obtain ⟨es,clock,hb,hst,hc,hk,h1,h2⟩:=h
 rcases K.find w hkey es.toList hk with ⟨g1,g2⟩|⟨j,e0,g1,g2,g3⟩
 · have hn:f key=none:=by
    cases hf:f key with
    |none=>rfl
    | some v=>
      obtain ⟨x,hx,hxk⟩:=h2 key v hf
      exact absurd hxk (g2 x hx)
   simp [Instr.lookup,run_underlying ht,MapKept.run_getObj_map hb,K.check w _ hkey,g1,hz,Result.andThen,hn]
 · have hs:=h1 e0 (jG g2)
   rw [g3] at hs
   simp [Instr.lookup,run_underlying ht,MapKept.run_getObj_map hb,K.check w _ hkey,g1,Result.andThen,hs]
theorem MapIs.len (h:MapIs P k w b f c) (ht:P.underlying t=some (.map k e)) (ty:TypeId):(Builtin.len_ #[t] ty #[.map (some b)]).run P w=.ok (.int .i64 c) w:=by
 obtain ⟨es,clock,hb,hst,hc,_⟩:=h
 rw [←hc]
 simp [Builtin.len_,run_underlying ht,MapKept.run_getObj_map hb,goInt,Result.andThen]
theorem off_setBlock (w:World) (b:Nat) (o:Obj) (S:Nat→Prop) (hs:S b):Off S w (setBlock w b o):=
 ⟨rfl,rfl,rfl,by simp [setBlock],fun i hi hn=>by
  have:b≠i:=fun e=>hn (e ▸ hs)
  simp [setBlock,this]⟩
theorem MapIs.put (h:MapIs P k w b f c) (K:Keyed P k) (ht:P.underlying t=some (.map k e)) {key val:Value} {kl:Lit} (hkey:keyOf P k key=some kl):
 ∃w',(Instr.mapUpdate t (.map (some b)) key val).run P w=.ok () w'∧MapIs P k w' b (putK f key val) (if (f key).isSome then c else c+1)∧Off (· =b) w w':=by
 have hlt:=h.lt
 obtain ⟨es,clock,hb,hst,hc,hk,h1,h2⟩:=h
 rcases K.find w hkey es.toList hk with ⟨g1,g2⟩|⟨j,e0,g1,g2,g3⟩
 · have hn:f key=none:=by
    cases hf:f key with
    |none=>rfl
    | some v=>
      obtain ⟨x,hx,hxk⟩:=h2 key v hf
      exact absurd hxk (g2 x hx)
   refine ⟨setBlock w b (.map (es.push ⟨key,val,clock⟩) (clock+1)),?_,⟨es.push ⟨key,val,clock⟩,clock+1,?_,stamped_push hst g2,?_,?_,?_,?_⟩,off_setBlock _ _ _ _ rfl⟩
   · simp [Instr.mapUpdate,run_underlying ht,MapKept.run_getObj_map hb,K.check w false hkey,g1,MapKept.run_setObj_map _ hb,Result.andThen,setBlock]
   · simp [setBlock,hlt]
   · simp [hn,hc]
   · intro x hx
     simp only [Array.toList_push,List.mem_append,List.mem_singleton] at hx
     rcases hx with hx|rfl
     · exact hk x hx
     · exact ⟨_,hkey⟩
   · intro x hx
     simp only [Array.toList_push,List.mem_append,List.mem_singleton] at hx
     rcases hx with hx|rfl
     · simp [putK,g2 x hx,h1 x hx]
     · simp [putK]
   · intro key' v hv
     simp only [Array.toList_push,List.mem_append,List.mem_singleton]
     unfold putK at hv
     split at hv
     · rename_i he
       exact ⟨_,.inr rfl,he.symm⟩
     · obtain ⟨x,hx,hxk⟩:=h2 key' v hv
       exact ⟨x,.inl hx,hxk⟩
 · have hs:=h1 e0 (jG g2)
   rw [g3] at hs
   have hj:es[j]? =some e0:=by simpa using g2
   have hlist:(es.modify j (fun e'=>{e' with key:=key,val:=val})).toList=es.toList.set j {e0 with key:=key,val:=val}:=by rw [Array.toList_modify,modify_eq_set _ _ _ _ g2]
   have hjl:j<es.toList.length:=(jS.1 g2).1
   have hnd:=hst.2.2
   have who:∀x∈es.toList.set j {e0 with key:=key,val:=val},x={e0 with key:=key,val:=val}∨(x∈es.toList∧x.key≠key):=by
    intro x hx
    obtain ⟨i,hi⟩:=List.mem_iff_getElem?.1 hx
    by_cases hij:j=i
    · subst hij
      rw [List.getElem?_set_self hjl] at hi
      exact .inl (Option.some.inj hi).symm
    · rw [List.getElem?_set_ne hij] at hi
      refine .inr ⟨jG hi,fun hxk=>hij ?_⟩
      have e1:(es.toList.map (·.key))[j]? =some key:=by rw [List.getElem?_map,g2];simp [g3]
      have e2:(es.toList.map (·.key))[i]? =some key:=by rw [List.getElem?_map,hi];simp [hxk]
      exact (List.getElem?_inj (by simpa using hjl) hnd).1 (e1.trans e2.symm)
   refine ⟨setBlock w b (.map (es.modify j (fun e'=>{e' with key:=key,val:=val})) clock),?_,⟨es.modify j (fun e'=>{e' with key:=key,val:=val}),clock,?_,stamped_modify hst _ _ (fun _ _=>rfl) (fun e' _ he'=>by rw [hj] at he';cases he';exact g3.symm),?_,?_,?_,?_⟩,off_setBlock _ _ _ _ rfl⟩
   · have hst':=K.stays w hkey
     simp [Instr.mapUpdate,run_underlying ht,MapKept.run_getObj_map hb,K.check w false hkey,g1,MapKept.run_setObj_map _ hb,Result.andThen,setBlock,hj,g3,hst']
   · simp [setBlock,hlt]
   · simp [hs,hc]
   · intro x hx
     rw [hlist] at hx
     rcases who x hx with rfl|⟨hx,_⟩
     · exact ⟨_,hkey⟩
     · exact hk x hx
   · intro x hx
     rw [hlist] at hx
     rcases who x hx with rfl|⟨hx,hne⟩
     · simp [putK]
     · simp [putK,hne,h1 x hx]
   · intro key' v hv
     rw [hlist]
     by_cases he:key'=key
     · exact ⟨{e0 with key:=key,val:=val},List.mem_iff_getElem?.2 ⟨j,List.getElem?_set_self hjl⟩,he.symm⟩
     · simp [putK,he] at hv
       obtain ⟨x,hx,hxk⟩:=h2 key' v hv
       obtain ⟨i,hi⟩:=List.mem_iff_getElem?.1 hx
       refine ⟨x,List.mem_iff_getElem?.2 ⟨i,?_⟩,hxk⟩
       rw [List.getElem?_set_ne ?_]
       · exact hi
       · intro hij
         subst hij
         rw [g2] at hi
         cases hi
         exact he (hxk.symm.trans g3)
theorem MapIs.del (h:MapIs P k w b f c) (K:Keyed P k) (ht:P.underlying t=some (.map k e)) {key:Value} {kl:Lit} (hkey:keyOf P k key=some kl) (ty:TypeId):
 ∃w',(Builtin.delete_ #[t,k] ty #[.map (some b),key]).run P w=.ok (.tuple #[]) w'∧MapIs P k w' b (delK f key) (if (f key).isSome then c-1 else c)∧Off (· =b) w w':=by
 have hlt:=h.lt
 obtain ⟨es,clock,hb,hst,hc,hk,h1,h2⟩:=h
 rcases K.find w hkey es.toList hk with ⟨g1,g2⟩|⟨j,e0,g1,g2,g3⟩
 · have hn:f key=none:=by
    cases hf:f key with
    |none=>rfl
    | some v=>
      obtain ⟨x,hx,hxk⟩:=h2 key v hf
      exact absurd hxk (g2 x hx)
   refine ⟨setBlock w b (.map es clock),?_,⟨es,clock,?_,hst,by simp [hn,hc],hk,?_,?_⟩,off_setBlock _ _ _ _ rfl⟩
   · simp [Builtin.delete_,run_underlying ht,MapKept.run_getObj_map hb,K.check w _ hkey,g1,MapKept.run_setObj_map _ hb,Result.andThen,setBlock]
   · simp [setBlock,hlt]
   · intro x hx
     simp [delK,g2 x hx,h1 x hx]
   · intro key' v hv
     unfold delK at hv
     split at hv
     · cases hv
     · exact h2 key' v hv
 · have hs:=h1 e0 (jG g2)
   rw [g3] at hs
   have hjl:j<es.toList.length:=(jS.1 g2).1
   have hjs:j<es.size:=by simpa using hjl
   have hsub:(es.eraseIdxIfInBounds j).toList=es.toList.eraseIdx j:=by
    unfold Array.eraseIdxIfInBounds
    rw [dif_pos hjs]
    simp
   have hnd:=hst.2.2
   have who:∀x∈es.toList.eraseIdx j,x∈es.toList∧x.key≠key:=by
    intro x hx
    obtain ⟨i,hi,he⟩:=List.mem_eraseIdx_iff_getElem?.1 hx
    refine ⟨jG he,fun hxk=>hi ?_⟩
    have e1:(es.toList.map (·.key))[j]? =some key:=by rw [List.getElem?_map,g2];simp [g3]
    have e2:(es.toList.map (·.key))[i]? =some key:=by rw [List.getElem?_map,he];simp [hxk]
    exact ((List.getElem?_inj (by simpa using hjl) hnd).1 (e1.trans e2.symm)).symm
   refine ⟨setBlock w b (.map (es.eraseIdxIfInBounds j) clock),?_,⟨es.eraseIdxIfInBounds j,clock,?_,stamped_erase hst j,?_,?_,?_,?_⟩,off_setBlock _ _ _ _ rfl⟩
   · simp [Builtin.delete_,run_underlying ht,MapKept.run_getObj_map hb,K.check w _ hkey,g1,MapKept.run_setObj_map _ hb,Result.andThen,setBlock]
   · simp [setBlock,hlt]
   · have:(es.eraseIdxIfInBounds j).toList.length=es.toList.length-1:=by rw [hsub,List.length_eraseIdx_of_lt hjl]
     rw [hs,←Array.length_toList,this,←hc]
     simp
   · intro x hx
     rw [hsub] at hx
     exact hk x (who x hx).1
   · intro x hx
     rw [hsub] at hx
     simp [delK,(who x hx).2,h1 x (who x hx).1]
   · intro key' v hv
     unfold delK at hv
     split at hv
     · cases hv
     · rename_i hne
       obtain ⟨x,hx,hxk⟩:=h2 key' v hv
       rw [hsub]
       obtain ⟨i,hi⟩:=List.mem_iff_getElem?.1 hx
       refine ⟨x,List.mem_eraseIdx_iff_getElem?.2 ⟨i,?_,hi⟩,hxk⟩
       intro hij
       subst hij
       rw [g2] at hi
       cases hi
       exact hne (hxk.symm.trans g3)
end
theorem wpList_delete_run {P:Program} {w w':World} {ops:Array Oper} {rest:List Oper} {o:Oper} {a:Act} {Q:Exit→Act→World→Prop} (hgd:o.guard=none) (m x:Operand) (t k:TypeId)
 (ho:o.op=.call {callee:=.builtin .delete,args:=#[m,x],argTypes:=#[t,k]}) (mv key:Value) (hm:a.eval m=mv) (hx:a.eval x=key)
 (hrun:(Builtin.delete_ #[t,k] o.type #[mv,key]).run P w=.ok (.tuple #[]) w') (h:wpList P ops Q rest (a.put o.dst (.tuple #[])) w'):wpList P ops Q (o::rest) a w:=by
 refine wpList_plain hgd fun K hK=>?_
 unfold Oper.wp execOp
 simp only [ho,resolve,invoke,builtin,Sem.run_bind,Sem.run_pure,Result.andThen_ok,List.map_toArray,List.map_cons,List.map_nil,hm,hx,hrun]
 exact hK _ _ h
set_option maxRecDepth 100000
set_option maxHeartbeats 1000000
theorem alloc_at (w:World) (v:Value) (t:TypeId):(w.alloc (.cells #[v] t)).cell? ⟨w.heap.size,0,none⟩=some v∧(w.alloc (.cells #[v] t)).frozen? ⟨w.heap.size,0,none⟩=false:=by
 have b3:(w.alloc (.cells #[v] t)).heap[w.heap.size]? =some (.cells #[v] t (0,0)):=heap_alloc_new w _
 refine ⟨by rw [cell_of_row _ _ _ _ _ _ b3];rfl,?_⟩
 unfold World.frozen?;rw [b3];simp
abbrev Bytes:=List UInt8
def bv (x:UInt8):Value:=.int .u8 (x.toNat:Nat)
def at8 (L:Bytes) (k:Nat):Nat:=(L.getD k 0).toNat
theorem at8_get {L:Bytes} {k:Nat} (h:k<L.length):at8 L k=(L[k]).toNat:=by simp [at8,h]
def b8 (n:Nat):UInt8:=UInt8.ofNat n
theorem b8_lt {n:Nat} (h:n<256):(b8 n).toNat=n:=by simp [b8];omega
theorem b8_toNat (x:UInt8):b8 x.toNat=x:=by simp [b8]
def SBy (w:World) (A:Option Addr) (n:Nat) (L:Bytes):Prop:=L.length=n∧(0<n→∃b o,A=some ⟨b,o,none⟩∧b<w.heap.size∧∀k,k<n→w.cell? ⟨b,o+k,none⟩=some (.int .u8 (at8 L k:Nat)))
def OwB (B:Nat) (w:World) (v:Value) (L:Bytes):Prop:=w.ownsRow B 5 1 v L.length (L.map bv)
theorem SBy.nil (w:World) (A:Option Addr):SBy w A 0 []:=⟨rfl,fun h=>absurd h (by omega)⟩
theorem SBy.off {S:Nat→Prop} {w w':World} {A:Option Addr} {n:Nat} {L:Bytes} (h:SBy w A n L) (ho:Off S w w') (hs:∀k o,A=some ⟨k,o,none⟩→¬S k):SBy w' A n L:=⟨h.1,fun hp=>by
 obtain ⟨b,o,rfl,hb,hc⟩:=h.2 hp
 exact ⟨b,o,rfl,Nat.lt_of_lt_of_le hb ho.size,fun k hk=>(ho.cell hb (hs b o rfl)).trans (hc k hk)⟩⟩
theorem SBy.up {w w':World} {A:Option Addr} {n:Nat} {L:Bytes} (h:SBy w A n L) (hb:Below w.heap.size w w'):SBy w' A n L:=h.off (S:=fun _=>False) (Off.of_below hb) (fun _ _ _=>id)
theorem SBy.alloc {w:World} {A:Option Addr} {n:Nat} {L:Bytes} (h:SBy w A n L) (o:Obj):SBy (w.alloc o) A n L:=h.up (jB.alloc jN o)
theorem SBy.part {w:World} {b o n:Nat} {L:Bytes} (h:SBy w (some ⟨b,o,none⟩) n L) (i j:Nat) (hij:i≤j) (hj:j≤n):SBy w (some ⟨b,o+i,none⟩) (j-i) ((L.drop i).take (j-i)):=by
 obtain ⟨hl,hc⟩:=h
 refine ⟨by simp [hl];omega,fun hp=>?_⟩
 obtain ⟨b',o',he,hb,hc⟩:=hc (by omega)
 cases he
 refine ⟨b,o+i,rfl,hb,fun k hk=>?_⟩
 rw [Nat.add_assoc,hc (i+k) (by omega)]
 simp [at8,List.getD_eq_getElem?_getD,List.getElem?_take,List.getElem?_drop,hk]
section
variable {B:Nat} {w:World} {v:Value} {L:Bytes}
theorem OwB.mono (h:OwB B w v L) {B':Nat} (hb:B'≤B):OwB B' w v L:=World.ownsRow.mono h hb
theorem OwB.lt (h:OwB B w v L):∀k,v.ownBlock=some k→B≤k∧k<w.heap.size:=World.ownsRow.lt h
theorem OwB.alloc (h:OwB B w v L) (o:Obj):OwB B (w.alloc o) v L:=World.ownsRow.alloc h o
theorem OwB.drew (h:OwB B w v L):OwB B w.drew v L:=h
theorem OwB.empty (B:Nat) (w:World):OwB B w (.slice none 0 0) []:=World.ownsRow_nil _ _ _ _
theorem OwB.off (h:OwB B w v L) {S:Nat→Prop} {w':World} (ho:Off S w w') (hs:∀k,v.ownBlock=some k→¬S k):OwB B w' v L:=by
 refine ⟨h.1,?_⟩
 rcases h.2 with hn|⟨g,cap,cur,rfl,hb,hgg,rest⟩
 · exact .inl hn
 · refine .inr ⟨g,cap,cur,rfl,hb,?_,rest⟩
   rw [ho.block g (Array.getElem?_eq_some_iff.1 hgg).1 (hs g rfl)]
   exact hgg
theorem OwB.up (h:OwB B w v L) {w':World} (hb:Below w.heap.size w w'):OwB B w' v L:=h.off (S:=fun _=>False) (Off.of_below hb) (fun _ _=>id)
theorem OwB.form (h:OwB B w v L):∃A c,v=.slice A L.length c∧L.length≤c∧c≤maxLen∧SBy w A L.length L∧(∀b o,A=some ⟨b,o,none⟩→B≤b∧b<w.heap.size∧o=0):=by
 rcases h.2 with ⟨rfl,h0⟩|⟨g,cap,cur,rfl,hb,hg,h1,h2,h3,h4⟩
 · have:L=[]:=by simpa using h0
   subst this
   exact ⟨_,_,rfl,by simp,by simp,SBy.nil _ _,fun b o h=>by cases h⟩
 · have hl:=(Array.getElem?_eq_some_iff.1 hg).1
   refine ⟨_,_,rfl,h1,h2,⟨rfl,fun hp=>⟨g,0,rfl,hl,fun k hk=>?_⟩⟩,fun b o h=>?_⟩
   · have:=World.ownsRow.cells h (g:=g) rfl k (bv (L[k])) (by simp [hk])
     rw [show (⟨g,0,none⟩:Addr).add k=⟨g,0+k,none⟩ by unfold Addr.add;split<;>simp_all] at this
     rw [this,at8_get hk]
     rfl
   · injection h with e
     injection e with e1 e2
     subst e1
     exact ⟨hb,hl,e2.symm⟩
theorem OwB.part {A:Option Addr} {n c:Nat} (h:OwB B w (.slice A n c) L):L.length=n∧n≤c∧SBy w A n L:=by
 obtain ⟨A',c',he,h1,h2,h3,_⟩:=h.form
 cases he
 exact ⟨rfl,h1,h3⟩
end
theorem byte_info:(Tryz.prog.info? 5).map (fun i=>(i.zero,i.size,i.bytes))=some (some (.int .u8 0),1,1):=by kernel_rfl
theorem run_app {B:Nat} {w:World} {v:Value} {L M:Bytes} {A:Option Addr} {m c:Nat} (hown:OwB B w v L) (hS:SBy w A m M) (hB:B≤w.heap.size) (hlen:L.length+m≤140737488355328) (ty:TypeId):
 ∃v' w',(Builtin.append_ #[24,24] ty #[v,.slice A m c]).run Tryz.prog w=.ok v' w'∧OwB B w' v' (L ++ M)∧w.grownBy w' v.ownBlock∧(v'.ownBlock=v.ownBlock∨v'.ownBlock=some w.heap.size):=by
 obtain ⟨i,hi,hz0,hz1,hz2⟩:=info_parts byte_info
 obtain ⟨hl,hc⟩:=hS
 have hne:∃a:Addr,A=some a∨m=0:=by
  rcases Nat.eq_zero_or_pos m with h0|hp
  · exact ⟨⟨0,0,none⟩,.inr h0⟩
  · obtain ⟨b,o,rfl,_⟩:=hc hp
    exact ⟨_,.inl rfl⟩
 rcases Nat.eq_zero_or_pos m with h0|hp
 · subst h0
   have:M=[]:=by simpa using hl
   subst this
   refine ⟨v,w,?_,by simpa using hown,⟨rfl,rfl,rfl,Nat.le_refl _,fun _ _ _=>rfl⟩,.inl rfl⟩
   rcases hown.2 with ⟨rfl,h0⟩|⟨g,cap,cur,rfl,hb,hg,h1,h2,h3,h4⟩
   · cases A<;>simp [Builtin.append_,run_underlying Tryz.underlying24,sizeOf,typeInfo,hi,Builtin.lenOf,Builtin.firstCells,loadCells,loadCellsFrom]
   · cases A<;>simp [Builtin.append_,run_underlying Tryz.underlying24,sizeOf,typeInfo,hi,Builtin.lenOf,Builtin.firstCells,loadCells,loadCellsFrom,h1,storeCells]
 · obtain ⟨b,o,rfl,hb,hc⟩:=hc hp
   obtain ⟨v',w',hr,ho,hg,_,hat⟩:=run_append_own_at (P:=Tryz.prog) w B 24 ty 5 i (.int .u8 0) 1 1 Tryz.underlying24 hi hz0 hz1 hz2 rfl (by omega) v L.length (L.map bv) hown ⟨b,o,none⟩ m c (M.map bv)
    (by simp [hl]) (fun j u hj=>by
     have hj':j<M.length:=by
      rcases Nat.lt_or_ge j M.length with h|h
      · exact h
      · rw [List.getElem?_eq_none (by simpa using h)] at hj;cases hj
     rw [show (⟨b,o,none⟩:Addr).add j=⟨b,o+j,none⟩ by unfold Addr.add;split<;>simp_all,hc j (by omega),at8_get hj']
     simp [hj'] at hj
     rw [←hj]
     rfl) (fun u hu=>by
     obtain ⟨x,_,rfl⟩:=List.mem_map.1 hu
     simp [bv,Value.oneCell']) (by unfold maxLen;omega) (by omega) hB
   refine ⟨v',w',hr,?_,hg,hat⟩
   unfold OwB
   rw [List.length_append,List.map_append,hl]
   exact ho
theorem wpList_app {ops:Array Oper} {rest:List Oper} {o:Oper} {a:Act} {w:World} {Q:Exit→Act→World→Prop} (hgd:o.guard=none) (s x:Operand)
 (ho:o.op=.call {callee:=.builtin .append,args:=#[s,x],argTypes:=#[24,24]}) (B:Nat) (v:Value) (L M:Bytes) (hs:a.eval s=v) (hown:OwB B w v L) (A:Option Addr) (m c:Nat) (hx:a.eval x=.slice A m c)
 (hS:SBy w A m M) (hB:B≤w.heap.size) (hlen:L.length+m≤140737488355328) (n':Nat) (hn':L.length+m=n')
 (h:∀A' c' w',OwB B w' (.slice A' n' c') (L ++ M)→w.grownBy w' v.ownBlock→(Value.ownBlock (.slice A' n' c')=v.ownBlock∨Value.ownBlock (.slice A' n' c')=some w.heap.size)→wpList Tryz.prog ops Q rest (a.put o.dst (.slice A' n' c')) w'):wpList Tryz.prog ops Q (o::rest) a w:=by
 obtain ⟨v',w',hr,h1,h2,h3⟩:=run_app (c:=c) hown hS hB hlen o.type
 obtain ⟨A',c',rfl,_⟩:=h1.form
 have hl:(L ++ M).length=n':=by rw [List.length_append,hS.1,hn']
 rw [hl] at h1 h3 hr
 refine wpList_plain hgd fun K hK=>?_
 unfold Oper.wp execOp
 simp only [ho,resolve,invoke,builtin,Sem.run_bind,Sem.run_pure,Result.andThen_ok,List.map_toArray,List.map_cons,List.map_nil,hs,hx,hr]
 exact hK _ _ (h A' c' w' h1 h2 h3)
theorem SBy.one (w:World) {x:Nat} (h:x<256) (t:TypeId):SBy (w.alloc (.cells #[.int .u8 (x:Nat)] t)) (some ⟨w.heap.size,0,none⟩) 1 [b8 x]:=by
 refine ⟨rfl,fun _=>⟨w.heap.size,0,rfl,by simp,fun k hk=>?_⟩⟩
 have:k=0:=by omega
 subst this
 have b3:(w.alloc (.cells #[.int .u8 (x:Nat)] t)).heap[w.heap.size]? =some (.cells #[.int .u8 (x:Nat)] t (0,0)):=heap_alloc_new w _
 rw [cell_of_row _ _ _ _ _ _ b3]
 simp [at8,b8_lt h]
theorem OwB.lit (w:World) {B:Nat} (hB:B≤w.heap.size):OwB B (w.alloc (.cells #[] 5)) (.slice (some ⟨w.heap.size,0,none⟩) 0 0) []:=World.ownsRow_made w #[] 0 hB (by simp) rfl
theorem OwB.below {B:Nat} {w w' w0:World} {v:Value} {L:Bytes} (h:OwB B w v L) (hb:Below B w0 w) (hg:w.grownBy w' v.ownBlock) (hB:B≤w.heap.size):Below B w0 w':=Below.grown hb hg hB fun k hk=>(h.lt k hk).1
theorem grown_off {w w':World} {r:Option Nat} (h:w.grownBy w' r):Off (fun k=>r=some k) w w':=⟨h.os,h.tape,h.output,h.size,fun k hk hn=>h.block k hk (fun e=>hn e.symm)⟩
structure FrB (w0 w:World) (v:Value) (L:Bytes):Prop where
 own:OwB w0.heap.size w v L
 bel:Below w0.heap.size w0 w
section
variable {w0 w:World} {v:Value} {L:Bytes}
theorem FrB.alloc (h:FrB w0 w v L) (o:Obj):FrB w0 (w.alloc o) v L:=⟨h.own.alloc o,h.bel.alloc h.bel.size o⟩
theorem FrB.drew (h:FrB w0 w v L):FrB w0 w.drew v L:=⟨h.own.drew,h.bel.drew⟩
theorem FrB.up {w':World} (h:FrB w0 w v L) (hb:Below w.heap.size w w'):FrB w0 w' v L:=⟨h.own.up hb,below_upto h.bel hb jN⟩
theorem FrB.lit (w:World):FrB w (w.alloc (.cells #[] 5)) (.slice (some ⟨w.heap.size,0,none⟩) 0 0) []:=⟨OwB.lit w jN,jB.alloc jN _⟩
theorem FrB.empty (w:World):FrB w w (.slice none 0 0) []:=⟨OwB.empty _ _,Below.refl _ _⟩
theorem FrB.sby {A:Option Addr} {n c:Nat} (h:FrB w0 w (.slice A n c) L):SBy w A n L:=h.own.part.2.2
theorem FrB.len {A:Option Addr} {n c:Nat} (h:FrB w0 w (.slice A n c) L):L.length=n:=h.own.part.1
end
theorem wpList_appF {ops:Array Oper} {rest:List Oper} {o:Oper} {a:Act} {w:World} {Q:Exit→Act→World→Prop} (hgd:o.guard=none) (s x:Operand)
 (ho:o.op=.call {callee:=.builtin .append,args:=#[s,x],argTypes:=#[24,24]}) (w0:World) (v:Value) (L M:Bytes) (hs:a.eval s=v) (hown:FrB w0 w v L) (A:Option Addr) (m c:Nat) (hx:a.eval x=.slice A m c)
 (hS:SBy w A m M) (hlen:L.length+m≤140737488355328) (n':Nat) (hn':L.length+m=n')
 (h:∀A' c' w',FrB w0 w' (.slice A' n' c') (L ++ M)→Off (fun k=>v.ownBlock=some k) w w'→wpList Tryz.prog ops Q rest (a.put o.dst (.slice A' n' c')) w'):wpList Tryz.prog ops Q (o::rest) a w:=
 wpList_app hgd s x ho w0.heap.size v L M hs hown.own A m c hx hS hown.bel.size hlen n' hn' fun A' c' w' h1 hg _=>h A' c' w' ⟨h1,hown.own.below hown.bel hg hown.bel.size⟩ (grown_off hg)
def strB (L:Bytes):ByteArray:=⟨L.toArray⟩
theorem strB_list (L:Bytes):(strB L).toList=L:=by rw [ByteArray.toList_eq];simp [strB]
theorem strB_eq (L M:Bytes):((strB L).toList==(strB M).toList)=decide (L=M):=by
 rw [strB_list,strB_list,Bool.eq_iff_iff]
 simp
theorem SBy.str {w:World} {A:Option Addr} {n:Nat} {L:Bytes} (h:SBy w A n L) (c:Nat):(convert 24 9 (.slice A n c)).run Tryz.prog w=.ok (.string (strB L)) w:=by
 obtain ⟨hl,hc⟩:=h
 cases A with
 | none=>
   obtain rfl:n=0:=by
    rcases Nat.eq_zero_or_pos n with h|h
    · exact h
    · obtain ⟨b,o,h,_⟩:=hc h
      cases h
   have:L=[]:=by simpa using hl
   subst this
   exact run_convert_bytes_nil w _ _ Tryz.underlying24 Tryz.underlying5 _ _ _ Tryz.underlying9
 | some a=>
   subst hl
   refine run_convert_bytes_back w _ _ _ a c L Tryz.underlying24 Tryz.underlying5 Tryz.underlying9 fun j hj=>?_
   obtain ⟨b,o,he,hb,hcc⟩:=hc (by omega)
   cases he
   rw [show (⟨b,o,none⟩:Addr).add j=⟨b,o+j,none⟩ by unfold Addr.add;split<;>simp_all,hcc j hj,at8_get hj]
set_option maxRecDepth 100000
set_option maxHeartbeats 1000000
theorem clone_any (w:World) (A:Option Addr) (n c:Nat) (L:Bytes) (hL:SBy w A n L) (hn:n≤2 ^ 40):
 Calls Tryz.prog 81 #[.slice A n c] w fun e w'=>∃A' c',e=.returned (.slice A' n c')∧FrB w w' (.slice A' n c') L∧(0<n→∃b,A'=some ⟨b,0,none⟩):=by
 have heq:=fun (w:World) (a:Option Addr) (n c:Nat)=>Lib.run_eql_slice_nil (P:=Tryz.prog) w 24 5 a n c 0 0 Tryz.underlying24
 have HL:=hJ hL
 cases A with
 | none=>
   obtain rfl:n=0:=by
    rcases Nat.eq_zero_or_pos n with h|h
    · exact h
    · obtain ⟨b,o,h,_⟩:=hL.2 h
      cases h
   have:L=[]:=by simpa using hL.1
   subst this
   clear hL HL
   go_enter Tryz.func81,Tryz.ntmps81
   go_wp2
   go_ret
   exact ⟨_,_,rfl,FrB.empty w,fun h=>by omega⟩
 | some a=>
   clear hL
   go_enter Tryz.func81,Tryz.ntmps81
   go_wp2_with (at_builtin;go_must (refine wpList_appF rfl (.tmp 5) (.tmp 6) rfl w (.slice (some ⟨w.heap.size,0,none⟩) 0 0) [] L rfl (FrB.lit w) (some a) n c rfl (HL.out.alloc _) (by simp;omega) n (by simp) ?_);intro A' c' w1 h1 hg)
   have H1:=hJ h1
   clear h1 hg
   go_wp2
   go_ret
   refine ⟨_,_,rfl,by simpa using H1.out,fun h=>?_⟩
   obtain ⟨g,cap,hv,_⟩:=World.ownsRow.form H1.out.own (by simpa [HL.out.1] using h)
   cases hv
   exact ⟨_,rfl⟩
theorem equal_any (w:World) (A B:Option Addr) (n c m d:Nat) (L M:Bytes) (hL:SBy w A n L) (hM:SBy w B m M):
 Calls Tryz.prog 104 #[.slice A n c,.slice B m d] w fun e w'=>e=.returned (.bool (decide (L=M)))∧w'=w:=by
 have s1:=hL.str c
 have s2:=hM.str d
 go_enter Tryz.func104,Tryz.ntmps104
 go_wp2
 go_ret
 exact ⟨by rw [←strB_eq];rfl,rfl⟩
end Go.Proofs.YtlhfjaagkgengaaGreat
