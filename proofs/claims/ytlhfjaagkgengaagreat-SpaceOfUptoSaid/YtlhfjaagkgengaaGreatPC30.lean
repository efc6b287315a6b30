/- almanaclaw16.known. The document's machine, plain: a process' pages, rising, byte by byte. The document's machine: rows of ints, of regions, of pages; appends. -/
import Derived.Test.YtlhfjaagkgengaaGreatPC28
import Derived.Test.YtlhfjaagkgengaaGreatPC29
import Derived.Lib.SlBytesConst
namespace Go.Proofs.YtlhfjaagkgengaaGreat
open Go.RowKit Go.Maps
set_option linter.unusedVariables false
set_option linter.unusedSimpArgs false
theorem map_one {D:SpD} (hD:D.Ok) {a n p:Int} (ha:0≤a) (hn:1≤n) (hs:a+n≤D.ps) (hp:0≤p∧p≤3):mappedF D [] a n p=([⟨a,a+n,p⟩],0):=by
 have b7:=hD.b7
 have h1:pagesB D a n=true:=by unfold pagesB;exact decide_eq_true (by omega)
 have h2:rightB a (a+n) p=true:=by unfold rightB protB;rw [decide_eq_true (by omega),decide_eq_true hp];rfl
 have h3:mapF [] a (a+n) p=([⟨a,a+n,p⟩],0):=by
  unfold mapF
  rw [if_neg (by rw [h2];simp),if_neg (by simp [piecesF])]
  unfold joinedR sortG
  rw [List.nil_append,List.mergeSort_singleton]
  rfl
 unfold mappedF
 rw [if_neg (by rw [h1];simp),h3]
 unfold fitF
 rw [if_neg (by simp only [List.length_singleton];omega)]
theorem dist_one (x:Rg) (h:0≤x.lo∧x.lo≤1073741824):RgDist ([] ++ [x]):=
 ⟨fun y hy=>by rw [List.nil_append,List.mem_singleton] at hy;rw [hy];exact h,fun y hy z hz _=>by rw [List.nil_append,List.mem_singleton] at hy hz;rw [hy,hz]⟩
theorem all_one {lo hi a b ways:Int} (h:lo≤a∧b≤hi) (hab:a<b) (hw:andI 3 ways=ways):allF [⟨lo,hi,3⟩] a b ways=true:=by
 have hs:SrtR lo [⟨lo,hi,3⟩]:=⟨Int.le_refl _,by simp only;omega,trivial⟩
 rw [all_iff hs hab]
 intro x h1 h2
 refine ⟨3,?_,hw⟩
 unfold atR
 rw [if_pos (by simp only;omega)]
theorem check_one {D:SpD} (hD:D.Ok) {lo hi at_ n ways:Int} (h0:0≤lo) (h1:hi≤D.ps) (h2:lo*D.pg≤at_) (h3:at_+n≤hi*D.pg) (hn:0≤n∧n≤1048576) (hw:andI 3 ways=ways):checkF D [⟨lo,hi,3⟩] at_ n ways=0:=by
 have b4:=hD.b4
 have hp:(0:Int)<D.pg:=by omega
 have hm:hi*(D.pg:Int)≤(D.ps:Int)*D.pg:=Int.mul_le_mul_of_nonneg_right h1 (by omega)
 have h0':0≤lo*(D.pg:Int):=Int.mul_nonneg h0 (by omega)
 unfold checkF
 rw [if_neg (by rw [Int.natCast_mul];omega)]
 by_cases c:n=0
 · rw [if_pos c]
 · rw [if_neg c,if_pos]
   have e1:lo≤at_ / D.pg:=Int.le_ediv_of_mul_le hp h2
   have e2:(at_+n-1) / D.pg<hi:=Int.ediv_lt_of_lt_mul hp (by omega)
   have e3:at_ / D.pg≤(at_+n-1) / D.pg:=Int.ediv_le_ediv hp (by omega)
   exact all_one ⟨e1,by omega⟩ (by omega) hw
theorem right_one {lo hi ps:Int} (h0:0≤lo) (h1:lo<hi) (h2:hi≤ps):rightL ps [⟨lo,hi,3⟩]=true:=by
 rw [right_iff]
 refine ⟨⟨h0,h1,by simp,trivial⟩,fun r hr=>?_⟩
 rw [List.mem_singleton] at hr
 rw [hr]
 exact ⟨h2,by simp only;omega,by simp only;omega⟩
def cfK:Nat→Int:=fun i=>([0,0,0,0,16,0,2,3,8]:List Int).getD i 0
theorem kc9 (w:World) (C:Array Value) (n c:Nat):(convert 24 24 (.slice (some ⟨w.heap.size,0,none⟩) n c)).run Tryz.prog (w.alloc (.cells C 5))=.ok (.slice (some ⟨w.heap.size,0,none⟩) n c) (w.alloc (.cells C 5 (C.size,C.size+1))):=
 Lib.run_convert_bytes_const (P:=Tryz.prog) w 24 5 C n c Tryz.underlying24 Tryz.underlying5
theorem sby_row9 (w:World) (xs:Array Value) (L:Bytes) (T:TypeId) (fr:Nat×Nat) (h:xs.toList=L.map bv):SBy (w.alloc (.cells xs T fr)) (some ⟨w.heap.size,0,none⟩) L.length L:=by
 refine ⟨rfl,fun hp=>⟨w.heap.size,0,rfl,by simp,fun k hk=>?_⟩⟩
 rw [Nat.zero_add,cell_of_row _ _ _ _ _ _ (heap_alloc_new w _),←Array.getElem?_toList,h,List.getElem?_map,jE hk,at8_get hk]
 rfl
abbrev PgL:=List (Nat×Bytes)
structure PrP where
 R:List Rg
 L:PgL
def ldB (z:Nat):PgL→Nat→UInt8
 |[],_=>0
 |p::L,a=>if p.1=a / z then p.2.getD (a%z) 0 else ldB z L a
def stB (z:Nat):PgL→Nat→UInt8→PgL
 |[],a,x=>[(a / z,(zeros z).set (a%z) x)]
 |p::L,a,x=>if p.1<a / z then p::stB z L a x else if p.1=a / z then (p.1,p.2.set (a%z) x)::L else (a / z,(zeros z).set (a%z) x)::p::L
def PgOk (z:Nat) (L:PgL):Prop:=L.Pairwise (fun p q=>p.1<q.1)∧∀p∈L,p.2.length=z
def domL (L:PgL) (n:Nat):Prop:=∃p∈L,p.1=n
section
variable {z:Nat} {L M:PgL} {a n:Nat} {x:UInt8}
theorem PgOk.nil:PgOk z []:=⟨List.Pairwise.nil,fun p h=>by cases h⟩
theorem PgOk.tail {p:Nat×Bytes} (h:PgOk z (p::L)):PgOk z L:=⟨(List.pairwise_cons.1 h.1).2,fun q hq=>h.2 q (jP hq)⟩
theorem PgOk.head {p:Nat×Bytes} (h:PgOk z (p::L)):∀q∈L,p.1<q.1:=(List.pairwise_cons.1 h.1).1
theorem domL_cons {p:Nat×Bytes}:domL (p::L) n ↔ p.1=n∨domL L n:=by
 unfold domL
 simp only [List.mem_cons]
 constructor
 · rintro ⟨q,rfl|hq,e⟩
   · exact .inl e
   · exact .inr ⟨q,hq,e⟩
 · rintro (e|⟨q,hq,e⟩)
   · exact ⟨p,.inl rfl,e⟩
   · exact ⟨q,.inr hq,e⟩
theorem domL_nil:¬domL [] n:=by rintro ⟨p,hp,_⟩;cases hp
theorem ldB_away (h:¬domL L (a / z)):ldB z L a=0:=by
 induction L with
 |nil=>rfl
 | cons p L ih=>
   rw [domL_cons] at h
   unfold ldB
   rw [if_neg (fun e=>h (.inl e)),ih (fun e=>h (.inr e))]
theorem ldB_at {p:Nat×Bytes} (h:PgOk z L) (hp:p∈L) (e:p.1=a / z):ldB z L a=p.2.getD (a%z) 0:=by
 induction L with
 |nil=>cases hp
 | cons q L ih=>
   unfold ldB
   rcases List.mem_cons.1 hp with rfl|hp
   · rw [if_pos e]
   · have:=h.head p hp
     rw [if_neg (by omega),ih h.tail hp]
theorem stB_dom:domL (stB z L a x) n ↔ n=a / z∨domL L n:=by
 induction L with
 | nil=>
   unfold stB
   rw [domL_cons]
   constructor
   · rintro (e|e)
     · exact .inl e.symm
     · exact absurd e domL_nil
   · rintro (e|e)
     · exact .inl e.symm
     · exact absurd e domL_nil
 | cons p L ih=>
   unfold stB
   split
   · rw [domL_cons,domL_cons,ih]
     constructor
     · rintro (e|e|e)<;>simp [e]
     · rintro (e|e|e)<;>simp [e]
   · split
     · rename_i e2
       rw [domL_cons,domL_cons]
       simp only
       constructor
       · rintro (e|e)<;>simp [e]
       · rintro (e|e|e)
         · exact .inl (by omega)
         · exact .inl e
         · exact .inr e
     · rw [domL_cons,domL_cons]
       simp only
       constructor
       · rintro (e|e|e)<;>simp [e]
       · rintro (e|e|e)<;>simp [e]
theorem stB_mem {p:Nat×Bytes} (hp:p∈stB z L a x):p∈L∨p.1=a / z:=by
 induction L with
 | nil=>
   unfold stB at hp
   rw [List.mem_singleton] at hp
   exact .inr (by rw [hp])
 | cons q L ih=>
   unfold stB at hp
   split at hp
   · rcases List.mem_cons.1 hp with rfl|hp
     · exact .inl jM
     · exact (ih hp).imp (jP) id
   · split at hp
     · rename_i e2
       rcases List.mem_cons.1 hp with rfl|hp
       · exact .inr e2
       · exact .inl (jP hp)
     · rcases List.mem_cons.1 hp with rfl|hp
       · exact .inr rfl
       · exact .inl hp
theorem stB_ok (h:PgOk z L):PgOk z (stB z L a x):=by
 induction L with
 | nil=>
   unfold stB
   exact ⟨by simp,fun p hp=>by rw [List.mem_singleton] at hp;rw [hp];simp [zeros]⟩
 | cons q L ih=>
   unfold stB
   split
   · rename_i hlt
     have g:=ih h.tail
     refine ⟨List.pairwise_cons.2 ⟨fun p hp=>?_,g.1⟩,fun p hp=>?_⟩
     · rcases stB_mem hp with e|e
       · exact h.head p e
       · omega
     · rcases List.mem_cons.1 hp with rfl|hp
       · exact h.2 _ jM
       · exact g.2 p hp
   · split
     · refine ⟨List.pairwise_cons.2 ⟨fun p hp=>h.head p hp,h.tail.1⟩,fun p hp=>?_⟩
       rcases List.mem_cons.1 hp with rfl|hp
       · simp only [List.length_set]
         exact h.2 q jM
       · exact h.2 p (jP hp)
     · refine ⟨List.pairwise_cons.2 ⟨fun p hp=>?_,h.1⟩,fun p hp=>?_⟩
       · rcases List.mem_cons.1 hp with rfl|hp
         · simp only;omega
         · have:=h.head p hp
           simp only
           omega
       · rcases List.mem_cons.1 hp with rfl|hp
         · simp [zeros]
         · exact h.2 p hp
theorem zeros_getD (j:Nat):(zeros z).getD j 0=0:=by
 unfold zeros
 rw [List.getD_eq_getElem?_getD,List.getElem?_replicate]
 split<;>rfl
theorem set_getD {b:Bytes} {i j:Nat} (hi:i<b.length):(b.set i x).getD j 0=if j=i then x else b.getD j 0:=by
 rw [List.getD_eq_getElem?_getD,List.getElem?_set]
 by_cases c:i=j
 · rw [if_pos c,if_pos hi,if_pos c.symm];rfl
 · rw [if_neg c,if_neg (fun e=>c e.symm),List.getD_eq_getElem?_getD]
theorem same_place {z a b:Nat} (h1:a / z=b / z) (h2:a%z=b%z):a=b:=by
 rw [←Nat.div_add_mod a z,←Nat.div_add_mod b z,h1,h2]
theorem stB_ld (hz:0<z) (h:PgOk z L) (c:Nat):ldB z (stB z L a x) c=if c=a then x else ldB z L c:=by
 have hm:=Nat.mod_lt a hz
 have hzl:(zeros z).length=z:=by simp [zeros]
 induction L with
 | nil =>
   unfold stB ldB
   simp only [ldB]
   by_cases e:c=a
   · subst e
     rw [if_pos rfl,if_pos rfl,set_getD (by omega),if_pos rfl]
   · rw [if_neg e]
     split
     · rename_i e1
       rw [set_getD (by omega),if_neg (fun e2=>e (same_place e1.symm e2)),zeros_getD]
     · rfl
 | cons q L ih=>
   have ih:=ih h.tail
   unfold stB
   split
   · rename_i hlt
     simp only [ldB]
     by_cases e1:q.1=c / z
     · rw [if_pos e1,if_pos e1,if_neg (fun e=>by rw [e] at e1;omega)]
     · rw [if_neg e1,if_neg e1,ih]
   · rename_i hlt
     split
     · rename_i e2
       simp only [ldB]
       by_cases e1:q.1=c / z
       · rw [if_pos e1,if_pos e1,set_getD (by rw [h.2 q jM];omega)]
         by_cases e:c=a
         · rw [if_pos e,if_pos (by rw [e])]
         · rw [if_neg e,if_neg (fun e3=>e (same_place (by omega) e3))]
       · rw [if_neg e1,if_neg e1,if_neg (fun e=>by rw [e] at e1;exact e1 e2)]
     · rename_i hne
       have hd:¬domL (q::L) (a / z):=by
        rintro ⟨p,hp,e⟩
        rcases List.mem_cons.1 hp with rfl|hp
        · exact hne e
        · have:=h.head p hp;omega
       by_cases e:c=a
       · subst e
         conv=>lhs;unfold ldB
         rw [if_pos rfl,if_pos rfl,set_getD (by omega),if_pos rfl]
       · rw [if_neg e]
         conv=>lhs;unfold ldB
         split
         · rename_i e1
           simp only at e1
           rw [ldB_away (by rw [←e1];exact hd),set_getD (by omega),if_neg (fun e2=>e (same_place e1.symm e2)),zeros_getD]
         · rfl
def stL (z:Nat):PgL→Nat→Bytes→PgL
 |L,_,[]=>L
 |L,a,b::bs=>stL z (stB z L a b) (a+1) bs
theorem stL_ok:∀(bs:Bytes) (a:Nat) {L:PgL},PgOk z L→PgOk z (stL z L a bs)
 |[],_,_,h=>h
 |b::bs,a,_,h=>stL_ok bs (a+1) (stB_ok h)
theorem stL_ld (hz:0<z):∀(bs:Bytes) (a:Nat) {L:PgL},PgOk z L→∀c,ldB z (stL z L a bs) c=if a≤c∧c<a+bs.length then bs.getD (c-a) 0 else ldB z L c
 | [],a,L,h,c=>by
   unfold stL
   rw [if_neg (by simp)]
 | b ::bs,a,L,h,c=>by
   unfold stL
   rw [stL_ld hz bs (a+1) (stB_ok h) c,stB_ld hz h]
   simp only [List.length_cons]
   by_cases c1:c=a
   · rw [if_neg (by omega),if_pos c1,if_pos (by omega),c1,Nat.sub_self]
     rfl
   · by_cases c2:a+1≤c∧c<a+1+bs.length
     · rw [if_pos c2,if_pos (by omega)]
       obtain ⟨j,rfl⟩:∃j,c=a+1+j:=⟨c-(a+1),by omega⟩
       rw [show a+1+j-(a+1)=j by omega,show a+1+j-a=j+1 by omega]
       rfl
     · rw [if_neg c2,if_neg c1,if_neg (by omega)]
theorem stL_dom:∀(bs:Bytes) (a:Nat) {L:PgL} (n:Nat),domL (stL z L a bs) n ↔ domL L n∨∃j,a≤j∧j<a+bs.length∧j / z=n
 | [],a,L,n=>by
   unfold stL
   constructor
   · exact .inl
   · rintro (h|⟨j,h1,h2,_⟩)
     · exact h
     · simp at h2;omega
 | b ::bs,a,L,n=>by
   unfold stL
   rw [stL_dom bs (a+1) n,stB_dom]
   simp only [List.length_cons]
   constructor
   · rintro ((e|e)|⟨j,h1,h2,h3⟩)
     · exact .inr ⟨a,Nat.le_refl _,by omega,e.symm⟩
     · exact .inl e
     · exact .inr ⟨j,by omega,by omega,h3⟩
   · rintro (e|⟨j,h1,h2,h3⟩)
     · exact .inl (.inr e)
     · by_cases c:j=a
       · exact .inl (.inl (by rw [←h3,c]))
       · exact .inr ⟨j,by omega,by omega,h3⟩
theorem stL_snoc (b:UInt8):∀(bs:Bytes) (a:Nat) (L:PgL),stL z L a (bs ++ [b])=stB z (stL z L a bs) (a+bs.length) b
 |[],a,L=>rfl
 | c::bs,a,L=>by
   rw [List.cons_append]
   unfold stL
   rw [stL_snoc b bs (a+1),List.length_cons,show a+1+bs.length=a+(bs.length+1) by omega]
theorem dropL_ok (h:PgOk z L) (f:Nat→Bool):PgOk z (L.filter fun p=>f p.1):=⟨h.1.filter _,fun p hp=>h.2 p (List.mem_filter.1 hp).1⟩
theorem dropL_dom (f:Nat→Bool):domL (L.filter fun p=>f p.1) n ↔ domL L n∧f n=true:=by
 unfold domL
 constructor
 · rintro ⟨p,hp,rfl⟩
   obtain ⟨h1,h2⟩:=List.mem_filter.1 hp
   exact ⟨⟨p,h1,rfl⟩,h2⟩
 · rintro ⟨⟨p,hp,rfl⟩,hf⟩
   exact ⟨p,List.mem_filter.2 ⟨hp,hf⟩,rfl⟩
theorem dropL_ld (h:PgOk z L) (f:Nat→Bool) (c:Nat):ldB z (L.filter fun p=>f p.1) c=if f (c / z)=true then ldB z L c else 0:=by
 by_cases hd:domL L (c / z)
 · obtain ⟨p,hp,e⟩:=hd
   by_cases hf:f (c / z)=true
   · rw [if_pos hf,ldB_at h hp e,ldB_at (dropL_ok h f) (List.mem_filter.2 ⟨hp,by rw [e];exact hf⟩) e]
   · rw [if_neg hf,ldB_away (fun e=>hf (((dropL_dom f).1 e).2))]
 · rw [ldB_away hd,ldB_away (fun e=>hd ((dropL_dom f).1 e).1)]
   split<;>rfl
end
def inE:El Int where
 sl:=25
 el:=3
 z:=.int .i64 0
 bytes:=8
 k:=1
 ht:=Tryz.underlying25
 hi:=by kernel_rfl
 hzs:=rfl
 hk:=by decide
 hb64:=by decide
 cells x:=[.int .i64 x]
 len _:=rfl
 one x u hu:=by
  simp at hu
  rcases hu with rfl
  rfl
def rgE:El Rg where
 sl:=41
 el:=62
 z:=.agg #[.int .i64 0,.int .i64 0,.int .i64 0]
 bytes:=24
 k:=3
 ht:=Tryz.underlying41
 hi:=by kernel_rfl
 hzs:=rfl
 hk:=by decide
 hb64:=by decide
 cells x:=[.int .i64 x.lo,.int .i64 x.hi,.int .i64 x.pr]
 len _:=rfl
 one x u hu:=by
  simp at hu
  rcases hu with rfl|rfl|rfl<;>rfl
structure MPg where
 n:Nat
 g:Nat
 c:Nat
 b:Bytes
def pgE:El MPg where
 sl:=155
 el:=154
 z:=.agg #[.int .i64 0,.slice none 0 0]
 bytes:=32
 k:=2
 ht:=Tryz.underlying155
 hi:=by kernel_rfl
 hzs:=rfl
 hk:=by decide
 hb64:=by decide
 cells x:=[.int .i64 (x.n:Nat),.slice (some ⟨x.g,0,none⟩) x.b.length x.c]
 len _:=rfl
 one x u hu:=by
  simp at hu
  rcases hu with rfl|rfl<;>rfl
theorem eAt_rg {w:World} {A:Option Addr} {L:List Rg} (h:EAt rgE w A L):RgAt w A L:=⟨fun hp=>by
 obtain ⟨g,o,rfl,hg,hc⟩:=h.at_ hp
 exact ⟨g,o,rfl,hg,fun i x hx=>⟨hc i x hx 0 _ rfl,hc i x hx 1 _ rfl,hc i x hx 2 _ rfl⟩⟩⟩
theorem step_append_any {P:Program} {ops:Array Oper} {o:Oper} {a:Act} {w w':World} {K:Act→World→Prop} {Q:Exit→Act→World→Prop} {E:Prop} (hgd:o.guard=none) (s x:Operand) (t1 t2:TypeId)
 (ho:o.op=.call {callee:=.builtin .append,args:=#[s,x],argTypes:=#[t1,t2]}) (v xv:Value) {v':Value} (hs:a.eval s=v) (hx:a.eval x=xv)
 (hr:(Builtin.append_ #[t1,t2] o.type #[v,xv]).run P w=.ok v' w') (h:K (a.put o.dst v') w'):if Region.wanted o (yielded ops a.tmps)=true then Oper.wp P o a w K Q else E:=by
 rw [if_pos (by simp [Region.wanted,hgd])]
 unfold Oper.wp execOp
 simp only [ho,resolve,invoke,builtin,Sem.run_bind,Sem.run_pure,Result.andThen_ok,List.map_toArray,List.map_cons,List.map_nil,hs,hx,hr]
 exact h
section
variable {E:Type} {F:El E} {B:Nat} {w w0 w' w1:World} {v:Value} {L M:List E} {S:Nat→Prop} {A:Option Addr}
theorem OwE.appN (h:OwE F B w v L) (ty:TypeId):(Builtin.append_ #[F.sl,F.sl] ty #[v,.slice none 0 0]).run Tryz.prog w=.ok v w:=by
 obtain ⟨i0,hi,hz0,hz1,hz2⟩:=info_parts F.hi
 exact run_append_owned_none (P:=Tryz.prog) w B F.sl ty F.el i0 F.k F.ht hi v L.length (elC F L) h
theorem EAt.many (F:El E) (w:World) (M:List E) (t:TypeId):EAt F (w.alloc (.cells (elC F M).toArray t)) (some ⟨w.heap.size,0,none⟩) M:=⟨fun _=>⟨w.heap.size,0,rfl,by simp,fun i y hy j u hu=>by
 rw [Nat.zero_add,cell_of_row _ _ _ _ _ _ (heap_alloc_new w _)]
 simpa using elC_at F M i y hy j u hu⟩⟩
theorem OwE.set1 {g n c:Nat} (h:OwE F B w (.slice (some ⟨g,0,none⟩) n c) L) (hk:F.k=1) (j:Nat) (x:E) {u:Value} (hx:F.cells x=[u]):
 OwE F B (w.setCell ⟨g,j,none⟩ u) (.slice (some ⟨g,0,none⟩) n c) (L.set j x)∧Off (· =g) w (w.setCell ⟨g,j,none⟩ u):=by
 have hn:n=L.length:=by obtain ⟨A,c',e,_⟩:=h.form;cases e;rfl
 subst hn
 obtain ⟨h1,h2⟩:=World.ownsRow.stored h j u
 refine ⟨?_,(grown_off h2).mono fun k e=>by cases e;rfl⟩
 unfold OwE
 rw [List.length_set]
 have e:elC F (L.set j x)=(elC F L).set j u:=by
  clear h h1 h2
  have key:∀(L:List E) (j:Nat),elC F (L.set j x)=(elC F L).set j u:=by
   intro L
   induction L with
   |nil=>intro j;simp [elC]
   | cons y L ih=>
     intro j
     have hl:=F.len y
     rw [hk] at hl
     match hy:F.cells y,hl with
     | [z],_=>
       cases j with
       |zero=>simp [elC,hx,hy]
       | succ j=>
         have:=ih j
         simp only [elC,List.set_cons_succ,List.flatMap_cons,hy,List.cons_append,List.nil_append] at this ⊢
         rw [this]
  exact key L j
 rw [e]
 exact h1
theorem step_appE {ops:Array Oper} {o:Oper} {a:Act} {K:Act→World→Prop} {Q:Exit→Act→World→Prop} {G:Prop} (F:El E) (hgd:o.guard=none) (s x:Operand)
 (ho:o.op=.call {callee:=.builtin .append,args:=#[s,x],argTypes:=#[F.sl,F.sl]}) (v:Value) (L:List E) (hs:a.eval s=v) (hown:OwE F B w v L) (M:List E) (ad:Addr) (m c:Nat) (hx:a.eval x=.slice (some ad) m c) (hm:m=M.length)
 (hM:EAt F w (some ad) M) (hB:B≤w.heap.size) (hlen:L.length+M.length≤4194304) (N:Nat) (hN:(L ++ M).length=N)
 (h:∀A' c' w',OwE F B w' (.slice A' N c') (L ++ M)→Off (fun k=>v.ownBlock=some k) w w'→K (a.put o.dst (.slice A' N c')) w'):if Region.wanted o (yielded ops a.tmps)=true then Oper.wp Tryz.prog o a w K Q else G:=by
 obtain ⟨A',c',w',hr,h1,h2,_⟩:=hown.app (m:=m) (c:=c) hB hm hM hlen o.type
 subst hN
 exact step_append_any hgd s x F.sl F.sl ho v _ hs hx hr (h A' c' w' h1 h2)
theorem step_appFr {ops:Array Oper} {o:Oper} {a:Act} {K:Act→World→Prop} {Q:Exit→Act→World→Prop} {G:Prop} (F:El E) (hgd:o.guard=none) (s x:Operand)
 (ho:o.op=.call {callee:=.builtin .append,args:=#[s,x],argTypes:=#[F.sl,F.sl]}) (v:Value) (L:List E) (hs:a.eval s=v) (hown:FrE F w0 w v L) (M:List E) (ad:Addr) (m c:Nat) (hx:a.eval x=.slice (some ad) m c) (hm:m=M.length)
 (hM:EAt F w (some ad) M) (hlen:L.length+M.length≤4194304) (N:Nat) (hN:(L ++ M).length=N)
 (h:∀A' c' w',FrE F w0 w' (.slice A' N c') (L ++ M)→Off (fun k=>v.ownBlock=some k) w w'→K (a.put o.dst (.slice A' N c')) w'):if Region.wanted o (yielded ops a.tmps)=true then Oper.wp Tryz.prog o a w K Q else G:=
 step_appE F hgd s x ho v L hs hown.1 M ad m c hx hm hM hown.2.size hlen N hN fun A' c' w' h1 h2=>h A' c' w' ⟨h1,hown.2.trans (h2.below (fun k e=>(hown.1.lt e).1) hown.2.size)⟩ h2
theorem step_appFrN {ops:Array Oper} {o:Oper} {a:Act} {K:Act→World→Prop} {Q:Exit→Act→World→Prop} {G:Prop} (F:El E) (hgd:o.guard=none) (s x:Operand)
 (ho:o.op=.call {callee:=.builtin .append,args:=#[s,x],argTypes:=#[F.sl,F.sl]}) (v:Value) (L:List E) (hs:a.eval s=v) (hown:FrE F w0 w v L) (hx:a.eval x=.slice none 0 0)
 (h:K (a.put o.dst v) w):if Region.wanted o (yielded ops a.tmps)=true then Oper.wp Tryz.prog o a w K Q else G:=
 step_append_any hgd s x F.sl F.sl ho v _ hs hx (hown.1.appN o.type) h
theorem OwE.cases {n c:Nat} (h:OwE F B w (.slice A n c) L):(A=none∧n=0∧c=0∧L=[])∨∃g,A=some ⟨g,0,none⟩:=by
 rcases h.2 with ⟨e,h0⟩|⟨g,cap,cur,e,_⟩
 · injection e with e1 e2 e3
   exact .inl ⟨e1,e2,e3,List.length_eq_zero_iff.1 h0⟩
 · injection e with e1 e2 e3
   exact .inr ⟨g,e1⟩
theorem FrE.drew (h:FrE F w0 w v L):FrE F w0 w.drew v L:=h.up jB.drew
theorem EAt.drew (h:EAt F w A L):EAt F w.drew A L:=h.up jB.drew
theorem EAt.alloc (h:EAt F w A L) (o:Obj):EAt F (w.alloc o) A L:=h.up (jB.alloc jN _)
theorem FrE.alloc (h:FrE F w0 w v L) (o:Obj):FrE F w0 (w.alloc o) v L:=h.up (jB.alloc jN _)
theorem FrE.lit2 (F:El E) (w:World) (o:Obj):FrE F w ((w.alloc o).alloc (.cells #[] F.el)) (.slice (some ⟨w.heap.size+1,0,none⟩) 0 0) []:=by
 have h:=FrE.lit F (w.alloc o)
 rw [show (w.alloc o).heap.size=w.heap.size+1 by simp] at h
 exact ⟨h.1.mono (by simp),(jB.alloc jN _).trans (h.2.mono (by simp))⟩
end
end Go.Proofs.YtlhfjaagkgengaaGreat
