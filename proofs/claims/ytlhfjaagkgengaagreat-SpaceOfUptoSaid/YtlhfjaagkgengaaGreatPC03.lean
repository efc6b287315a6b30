/- region: rows of regions that are made: append, Clone, Pieces. model18.Few and almanaclaw16.few: rows of operations and of acts. The shelf of almanaclaw11: a sink. Get. -/
import Derived.Test.YtlhfjaagkgengaaGreatPC02
import Derived.Test.YtlhfjaagkgengaaGreatPC00
import Derived.Test.YtlhfjaagkgengaaGreatPC01
import Derived.Maps.AppendAt
namespace Go.Proofs.YtlhfjaagkgengaaGreat
set_option maxRecDepth 100000
set_option maxHeartbeats 4000000
open Go.RowKit
set_option linter.unusedVariables false
set_option linter.unusedSimpArgs false
theorem wpList_append_run {P:Program} {ops:Array Oper} {rest:List Oper} {o:Oper} {a:Act} {w w':World} {Q:Exit→Act→World→Prop} (hgd:o.guard=none) (s x:Operand) (t:TypeId) (ho:o.op=.call {callee:=.builtin .append,args:=#[s,x],argTypes:=#[t,t]})
 (v xv:Value) (hs:a.eval s=v) (hx:a.eval x=xv) {v':Value} (hr:(Builtin.append_ #[t,t] o.type #[v,xv]).run P w=.ok v' w') (h:wpList P ops Q rest (a.put o.dst v') w'):wpList P ops Q (o::rest) a w:=by
 refine wpList_plain hgd fun K hK=>?_
 unfold Oper.wp execOp
 simp only [ho,resolve,invoke,builtin,Sem.run_bind,Sem.run_pure,Result.andThen_ok,List.map_toArray,List.map_cons,List.map_nil,hs,hx,hr]
 exact hK _ _ h
def Rg.cells (x:Rg):List Value:=[.int .i64 x.lo,.int .i64 x.hi,.int .i64 x.pr]
def rgC (L:List Rg):List Value:=L.flatMap Rg.cells
theorem rgC_len (L:List Rg):(rgC L).length=L.length*3:=by
 induction L with
 |nil=>rfl
 |cons x L ih=>simp only [rgC,List.flatMap_cons,List.length_append,List.length_cons,Rg.cells,List.length_nil] at ih ⊢;omega
theorem rgC_app (L M:List Rg):rgC (L ++ M)=rgC L ++ rgC M:=by simp [rgC]
theorem rgC_at:∀(L:List Rg) (i:Nat) (x:Rg),L[i]? =some x→(rgC L)[i*3]? =some (.int .i64 x.lo)∧(rgC L)[i*3+1]? =some (.int .i64 x.hi)∧(rgC L)[i*3+2]? =some (.int .i64 x.pr)
 |[],i,x,h=>by simp at h
 | y::L,0,x,h=>by
   simp at h
   subst h
   exact ⟨rfl,rfl,rfl⟩
 | y::L,i+1,x,h=>by
   rw [List.getElem?_cons_succ] at h
   have:=rgC_at L i x h
   rw [show (i+1)*3=i*3+3 by omega,show i*3+3+1=i*3+1+3 by omega,show i*3+3+2=i*3+2+3 by omega]
   simp only [rgC,List.flatMap_cons,Rg.cells,List.cons_append,List.nil_append,List.getElem?_cons_succ] at this ⊢
   exact this
theorem rgC_inv (L:List Rg) (j:Nat) (u:Value) (h:(rgC L)[j]? =some u):∃x,L[j / 3]? =some x∧x.cells[j%3]? =some u:=by
 have hj:j<L.length*3:=by rw [←rgC_len];exact (jS.1 h).1
 obtain ⟨x,hx⟩:∃x,L[j / 3]? =some x:=⟨_,jE (by omega)⟩
 refine ⟨x,hx,?_⟩
 obtain ⟨h0,h1,h2⟩:=rgC_at L _ x hx
 rcases (show j%3=0∨j%3=1∨j%3=2 by omega) with e|e|e
 · rw [show j / 3*3=j by omega,h] at h0;rw [e,h0];rfl
 · rw [show j / 3*3+1=j by omega,h] at h1;rw [e,h1];rfl
 · rw [show j / 3*3+2=j by omega,h] at h2;rw [e,h2];rfl
theorem rgC_one (L:List Rg):∀u∈rgC L,u.oneCell'=true:=fun u hu=>by
 obtain ⟨x,_,hx⟩:=List.mem_flatMap.1 hu
 simp [Rg.cells] at hx
 rcases hx with rfl|rfl|rfl<;>rfl
theorem rg_info:(Tryz.prog.info? 62).map (fun i=>(i.zero,i.size,i.bytes))=some (some (.agg #[.int .i64 0,.int .i64 0,.int .i64 0]),3,24):=by kernel_rfl
def OwG (B:Nat) (w:World) (v:Value) (L:List Rg):Prop:=w.ownsRow B 62 3 v L.length (rgC L)
section
variable {B:Nat} {w w' wa:World} {v:Value} {L M:List Rg} {S:Nat→Prop}
theorem OwG.form (h:OwG B w v L):∃A c,v=.slice A L.length c∧L.length≤c:=by
 rcases h.2 with ⟨rfl,h0⟩|⟨g,cap,cur,rfl,_,_,_,hc,_⟩
 · rw [h0];exact ⟨none,0,rfl,Nat.le_refl _⟩
 · exact ⟨_,cap,rfl,by omega⟩
theorem OwG.off (h:OwG B w v L) (ho:Off S w w') (hs:∀k,v.ownBlock=some k→¬S k):OwG B w' v L:=by
 refine ⟨h.1,?_⟩
 rcases h.2 with hn|⟨g,cap,cur,rfl,hb,hgg,rest⟩
 · exact .inl hn
 · exact .inr ⟨g,cap,cur,rfl,hb,(ho.block g (Array.getElem?_eq_some_iff.1 hgg).1 (hs g rfl)).trans hgg,rest⟩
theorem OwG.up (h:OwG B w v L) (hb:Below w.heap.size w w'):OwG B w' v L:=h.off (S:=fun _=>False) (Off.of_below hb) (fun _ _=>id)
theorem OwG.lt (h:OwG B w v L) {k:Nat} (hk:v.ownBlock=some k):B≤k∧k<w.heap.size:=World.ownsRow.lt h k hk
theorem OwG.rg {A:Option Addr} {n c:Nat} (h:OwG B w (.slice A n c) L):RgAt w A L:=⟨fun hp=>by
 obtain ⟨G,cap,hG,hcap,_⟩:=World.ownsRow.form h hp
 have hlt:=World.ownsRow.lt h
 have hrow:=h
 rw [hG] at hlt
 cases hG
 refine ⟨G,0,rfl,(hlt G rfl).2,fun i x hx=>?_⟩
 have e:∀j,(⟨G,0,none⟩:Addr).add j=⟨G,j,none⟩:=fun j=>by unfold Addr.add;split<;>simp_all
 obtain ⟨h0,h1,h2⟩:=rgC_at L i x hx
 have c0:=World.ownsRow.cells hrow (g:=G) rfl _ _ h0
 have c1:=World.ownsRow.cells hrow (g:=G) rfl _ _ h1
 have c2:=World.ownsRow.cells hrow (g:=G) rfl _ _ h2
 rw [e] at c0 c1 c2
 simp only [Nat.zero_add]
 exact ⟨c0,c1,c2⟩⟩
theorem OwG.own {A:Option Addr} {n c:Nat} (h:OwG B w (.slice A n c) L) {k:Nat} (hk:rgO A n k):(Value.slice A n c).ownBlock=some k:=by
 obtain ⟨hp,o,rfl⟩:=hk
 obtain ⟨A',c',e,_⟩:=h.form
 cases e
 obtain ⟨G,cap,hG,_⟩:=World.ownsRow.form h hp
 cases hG
 rfl
theorem OwG.nil (w:World) (B:Nat):OwG B w (.slice none 0 0) []:=⟨rfl,.inl ⟨rfl,rfl⟩⟩
theorem OwG.app (h:OwG B w v L) (hBw:B≤w.heap.size) {a:Addr} {m c:Nat} (hm:m=M.length) (hM:RgAt w (some a) M) (hlen:L.length+M.length≤1000000) (ty:TypeId):
 ∃A' c' w',(Builtin.append_ #[41,41] ty #[v,.slice (some a) m c]).run Tryz.prog w=.ok (.slice A' (L ++ M).length c') w'∧OwG B w' (.slice A' (L ++ M).length c') (L ++ M)∧Off (fun k=>v.ownBlock=some k) w w'∧((Value.slice A' (L ++ M).length c').ownBlock=v.ownBlock∨(Value.slice A' (L ++ M).length c').ownBlock=some w.heap.size):=by
 subst hm
 obtain ⟨i0,hi,hz0,hz1,hz2⟩:=info_parts rg_info
 obtain ⟨v',w',hr,ho,hg,_,hat⟩:=run_append_own_at (P:=Tryz.prog) w B 41 ty 62 i0 _ 3 24 Tryz.underlying41 hi hz0 hz1 hz2 rfl (by omega) v L.length (rgC L) h a M.length c (rgC M)
  (rgC_len M) (fun j u hj=>by
   obtain ⟨x,hx,hxu⟩:=rgC_inv M j u hj
   have hp:0<M.length:=by have:=(jS.1 hx).1;omega
   obtain ⟨g,o,e,hg,hc⟩:=hM.at_ hp
   cases e
   have ea:∀j,(⟨g,o,none⟩:Addr).add j=⟨g,o+j,none⟩:=fun j=>by unfold Addr.add;split<;>simp_all
   rw [ea]
   obtain ⟨c0,c1,c2⟩:=hc _ x hx
   rcases (show j%3=0∨j%3=1∨j%3=2 by omega) with e|e|e
   · rw [e] at hxu
     rw [show o+j=o+j / 3*3 by omega,c0]
     simp [Rg.cells] at hxu;rw [hxu]
   · rw [e] at hxu
     rw [show o+j=o+j / 3*3+1 by omega,c1]
     simp [Rg.cells] at hxu;rw [hxu]
   · rw [e] at hxu
     rw [show o+j=o+j / 3*3+2 by omega,c2]
     simp [Rg.cells] at hxu;rw [hxu]) (rgC_one M) (by unfold maxLen;omega) (by omega) hBw
 have ho':OwG B w' v' (L ++ M):=by
  unfold OwG
  rw [List.length_append,rgC_app]
  exact ho
 obtain ⟨A',c',rfl,_⟩:=ho'.form
 exact ⟨A',c',w',hr,ho',grown_off hg,hat⟩
end
def FrG (w0 w:World) (v:Value) (L:List Rg):Prop:=OwG w0.heap.size w v L∧Below w0.heap.size w0 w
theorem FrG.lit (w:World) (t:TypeId):OwG w.heap.size (w.alloc (.cells #[] 62)) (.slice (some ⟨w.heap.size,0,none⟩) 0 0) []:=
 ⟨rfl,.inr ⟨w.heap.size,0,#[],rfl,Nat.le_refl _,by rw [World.alloc_heap_new],by simp [rgC],by simp,by simp,by simp [rgC]⟩⟩
theorem cloneG_any (w:World) {A:Option Addr} (c:Nat) {L:List Rg} (hL:RgAt w A L) (hn:L.length≤100000):
 Calls Tryz.prog 78 #[.slice A L.length c] w fun e w'=>∃A' c',e=.returned (.slice A' L.length c')∧OwG w.heap.size w' (.slice A' L.length c') L∧Below w.heap.size w w':=by
 have heq:=fun (w:World) (a:Option Addr) (n c:Nat)=>Lib.run_eql_slice_nil (P:=Tryz.prog) w 41 62 a n c 0 0 Tryz.underlying41
 have HL:=hJ hL
 cases A with
 | none=>
   obtain rfl:L=[]:=by
    cases L with
    |nil=>rfl
    |cons x L=>obtain ⟨g,o,e,_⟩:=hL.at_ (by simp);cases e
   clear hL HL
   go_enter Tryz.func78,Tryz.ntmps78
   go_wp2
   go_ret
   exact ⟨_,_,rfl,OwG.nil _ _,Below.refl _ _⟩
 | some a=>
   obtain ⟨w1,hw1⟩:∃w1,w1=w.alloc (.cells #[] 62):=⟨_,rfl⟩
   have hb:Below w.heap.size w w1:=by rw [hw1];exact jB.alloc jN _
   have h1:OwG w.heap.size w1 (.slice (some ⟨w.heap.size,0,none⟩) 0 0) []:=by rw [hw1];exact FrG.lit w 0
   obtain ⟨A',c',w2,hr,ho,hof,hat⟩:=h1.app (M:=L) (m:=L.length) (c:=c) hb.size rfl (hL.up hb) (by simp;omega) 41
   have hb2:Below w.heap.size w w2:=hb.trans (hof.below (fun k e=>(h1.lt e).1) hb.size)
   have HR:=hJ (And.intro ho hb2)
   rw [hw1] at hr
   simp only [List.nil_append] at hr HR
   clear hL hw1 hb h1 ho hof hat hb2
   go_enter Tryz.func78,Tryz.ntmps78
   go_wp2_with (at_builtin;go_must (refine wpList_append_run rfl (.tmp 5) (.tmp 6) 41 rfl _ _ rfl rfl hr ?_))
   go_ret
   exact ⟨_,_,rfl,HR.out.1,HR.out.2⟩
set_option maxRecDepth 100000
set_option maxHeartbeats 4000000
open Go.RowKit Go.Maps
structure Ac16 where
 a:Int
 kind:Int
 pid:Int
 at_:Int
 n:Int
 prot:Int
 A:Option Addr
 m:Nat
 c:Nat
 d:Bytes
def Ac16.cells (x:Ac16):List Value:=[.int .i64 x.a,.int .i64 x.kind,.int .i64 x.pid,.int .i64 x.at_,.int .i64 x.n,.int .i64 x.prot,.slice x.A x.m x.c]
structure Ac16.In (x:Ac16) (w0:World):Prop where
 by_:SBy w0 x.A x.m x.d
 le:x.m≤x.c
def Ac16.far (x:Ac16):Bool:=decide (x.kind=5) && (decide (8192<x.n) && decide (x.n≤1048576))
structure OpR where
 kind:Int
 pid:Int
 at_:Int
 n:Int
 prot:Int
 A:Option Addr
 m:Nat
 c:Nat
def opE:El OpR where
 sl:=130
 el:=47
 z:=.agg #[.int .i64 0,.int .i64 0,.int .i64 0,.int .i64 0,.int .i64 0,.slice none 0 0]
 bytes:=64
 k:=6
 ht:=Tryz.underlying130
 hi:=by kernel_rfl
 hzs:=rfl
 hk:=by decide
 hb64:=by decide
 cells x:=[.int .i64 x.kind,.int .i64 x.pid,.int .i64 x.at_,.int .i64 x.n,.int .i64 x.prot,.slice x.A x.m x.c]
 len _:=rfl
 one x u hu:=by
  simp at hu
  rcases hu with rfl|rfl|rfl|rfl|rfl|rfl<;>rfl
def OpR.far (x:OpR):Bool:=decide (x.kind=5) && (decide (8192<x.n) && decide (x.n≤1048576))
def sumR (L:List OpR):Nat:=(L.map (·.m)).sum
def fewR (L:List OpR):Bool:=L.all (fun x=>! x.far) && (decide (L.length≤200) && decide (sumR L≤16384))
theorem sumR_take {L:List OpR} {j:Nat} {x:OpR} (h:L[j]? =some x):sumR (L.take (j+1))=sumR (L.take j)+x.m:=by
 unfold sumR
 rw [List.take_add_one,h]
 simp
theorem sumR_le {L:List OpR} (j:Nat):sumR (L.take j)≤sumR L:=by
 have h:=congrArg sumR (List.take_append_drop j L)
 unfold sumR at *
 rw [List.map_append,List.sum_append] at h
 omega
theorem fewR_bad {L:List OpR} {j:Nat} {x:OpR} (h:L[j]? =some x) (hf:x.far=true):fewR L=false:=by
 unfold fewR
 have:L.all (fun x=>! x.far)=false:=by
  rw [List.all_eq_false]
  exact ⟨x,jG h,by simp [hf]⟩
 rw [this]
 rfl
theorem mFew_any {W:World} {A:Option Addr} {c:Nat} {L:List OpR} (h:EAt opE W A L) (hs:sumR L≤1000000000) (hn:L.length≤1000000000):
 Calls Tryz.prog 69 #[.slice A L.length c] W fun e w'=>e=.returned (.bool (fewR L))∧w'=W:=by
 have HP:=hJ h
 have HS:=hJ hs
 obtain ⟨n,hln⟩:∃n,L.length=n:=⟨_,rfl⟩
 rw [hln] at hn ⊢
 have HL:=hJ hln
 clear h hs hln
 go_enter Tryz.func69,Tryz.ntmps69
 go_wp2
 go_loopw [3,4] (fun s i wr=>wr=W∧∃(j:Nat),j≤n∧i=.int .i64 (j:Nat)∧s=.int .i64 (sumR (L.take j):Nat)∧∀i x,i<j→L[i]? =some x→x.far=false) (fun _ i _=>n-(intOf i).toNat)
 case atStart=>exact ⟨rfl,0,by omega,rfl,rfl,fun i x hi=>by omega⟩
 case round=>
  obtain ⟨rfl,j,hj,rfl,rfl,hno⟩:=hrel
  have HNO:=hJ hno
  clear hno
  by_cases hjn:j<n
  · obtain ⟨x,hx⟩:∃x,L[j]? =some x:=⟨_,jE (by have:=HL.out;omega)⟩
    obtain ⟨g,o,rfl,hg,hc⟩:=HP.out.at_ (by have:=HL.out;omega)
    have k0:wr.cell? ⟨g,o+j*6,none⟩=some (.int .i64 x.kind):=hc j x hx 0 _ rfl
    have k3:wr.cell? ⟨g,o+j*6+3,none⟩=some (.int .i64 x.n):=hc j x hx 3 _ rfl
    have k5:wr.cell? ⟨g,o+j*6+5,none⟩=some (.slice x.A x.m x.c):=hc j x hx 5 _ rfl
    have hjI:(j:Int)<(n:Int):=by omega
    have hs2:=sumR_take hx
    have hs3:=sumR_le (L:=L) (j+1)
    have hs4:=HS.out
    obtain ⟨s1,hs1⟩:∃s1,sumR (L.take j)=s1:=⟨_,rfl⟩
    obtain ⟨s2,hs2'⟩:∃s2,sumR (L.take (j+1))=s2:=⟨_,rfl⟩
    rw [hs1,hs2'] at hs2
    rw [hs2'] at hs3
    rw [hs1]
    have w1:IntKind.i64.wrap ((s1:Int)+(x.m:Int))=(s2:Nat):=by rw [IntWalk.i64_in _ (by omega)];omega
    have HS2:=hJ hs2'
    have HX:=hJ hx
    clear hc hs2 hs3 hs4 hs1 hs2' hx
    have HFT:Hid (x.kind=5→8192<x.n→x.n≤1048576→fewR L=false):=hJ fun a b c=>fewR_bad HX.out (by unfold OpR.far;simp [a,b,c])
    have HFF:Hid (¬(x.kind=5∧8192<x.n∧x.n≤1048576)→∀i y,i<j+1→L[i]? =some y→y.far=false):=hJ fun h i y hi hy=>by
     by_cases e:i=j
     · subst e
       rw [HX.out] at hy
       cases hy
       unfold OpR.far
       by_cases a:x.kind=5
       · by_cases b:8192<x.n
         · have c:¬x.n≤1048576:=fun c=>h ⟨a,b,c⟩
           simp [c]
         · simp [b]
       · simp [a]
     · exact HNO.out i y (by omega) hy
    have hcs:(¬x.kind=5)∨(x.kind=5∧¬8192<x.n)∨(x.kind=5∧8192<x.n∧¬x.n≤1048576)∨(x.kind=5∧8192<x.n∧x.n≤1048576):=by
     by_cases a:x.kind=5<;>by_cases b:8192<x.n<;>by_cases c:x.n≤1048576<;>simp [a,b,c]
    rcases hcs with a|⟨a,b⟩|⟨a,b,c⟩|⟨a,b,c⟩
    · have HFF:=hJ (HFF.out (fun h=>a h.1))
      clear HFT
      go_wp2
      go_roundw
      case rel=>exact ⟨trivial,j+1,by omega,by go_num,by rw [HS2.out],HFF.out⟩
      case measure=>simp [intOf];omega
    · have HFF:=hJ (HFF.out (fun h=>b h.2.1))
      clear HFT
      rw [a] at k0
      go_wp2
      go_roundw
      case rel=>exact ⟨trivial,j+1,by omega,by go_num,by rw [HS2.out],HFF.out⟩
      case measure=>simp [intOf];omega
    · have HFF:=hJ (HFF.out (fun h=>c h.2.2))
      clear HFT
      rw [a] at k0
      go_wp2
      go_roundw
      case rel=>exact ⟨trivial,j+1,by omega,by go_num,by rw [HS2.out],HFF.out⟩
      case measure=>simp [intOf];omega
    · have HFT:=hJ (HFT.out a b c)
      clear HFF
      rw [a] at k0
      go_wp2
      go_ret
      exact ⟨by rw [HFT.out];rfl,rfl⟩
  · obtain rfl:j=n:=by omega
    have hj2:¬(j:Int)<(j:Int):=by omega
    have htk:L.take j=L:=List.take_of_length_le (by have:=HL.out;omega)
    rw [htk]
    have HF:Hid (fewR L=(decide ((j:Int)≤200) && decide (((sumR L:Nat):Int)≤16384))):=hJ (by
     unfold fewR
     have:L.all (fun x=>! x.far)=true:=by
      rw [List.all_eq_true]
      intro x hx
      obtain ⟨i,hi⟩:=List.mem_iff_getElem?.1 hx
      have:=HNO.out i x (by have:=(jS.1 hi).1;have:=HL.out;omega) hi
      simp [this]
     rw [this,Bool.true_and,HL.out]
     congr 1
     · exact decide_eq_decide.2 (by omega)
     · exact decide_eq_decide.2 (by omega))
    obtain ⟨s1,hs1⟩:∃s1,sumR L=s1:=⟨_,rfl⟩
    rw [hs1] at HF ⊢
    clear htk hs1 HNO
    by_cases hc:(j:Int)≤200
    · rw [decide_eq_true hc] at HF
      go_wp2
      go_ret
      exact ⟨by rw [HF.out];rfl,rfl⟩
    · rw [decide_eq_false hc] at HF
      go_wp2
      go_ret
      exact ⟨by rw [HF.out];rfl,rfl⟩
def Ac16.op (x:Ac16):OpR:=⟨x.kind,x.pid,x.at_,x.n,x.prot,x.A,x.m,x.c⟩
def acE:El Ac16 where
 sl:=40
 el:=49
 z:=.agg #[.int .i64 0,.int .i64 0,.int .i64 0,.int .i64 0,.int .i64 0,.int .i64 0,.slice none 0 0]
 bytes:=72
 k:=7
 ht:=Tryz.underlying40
 hi:=by kernel_rfl
 hzs:=rfl
 hk:=by decide
 hb64:=by decide
 cells:=Ac16.cells
 len _:=rfl
 one x u hu:=by
  simp [Ac16.cells] at hu
  rcases hu with rfl|rfl|rfl|rfl|rfl|rfl|rfl<;>rfl
def few16B (L:List Ac16):Bool:=decide (L.length≤100) && fewR (L.map Ac16.op)
theorem take_map {E G:Type} (f:E→G) {L:List E} {j:Nat} {x:E} (h:L[j]? =some x):(L.take (j+1)).map f=(L.take j).map f ++ [f x]:=by
 rw [List.take_add_one,h]
 simp
theorem few16_any {W:World} {A:Option Addr} {c:Nat} {L:List Ac16} (h:EAt acE W A L) (hs:L.length≤100→sumR (L.map Ac16.op)≤1000000000) (hn:L.length≤1048576):
 Calls Tryz.prog 20 #[.slice A L.length c] W fun e w'=>e=.returned (.bool (few16B L))∧Below W.heap.size W w':=by
 have HP:=hJ (fun (V:World) (hV:Below W.heap.size W V)=>h.up hV)
 have HS:=hJ hs
 obtain ⟨n,hln⟩:∃n,L.length=n:=⟨_,rfl⟩
 rw [hln] at hn ⊢
 have HL:=hJ hln
 clear h hs hln
 go_enter Tryz.func20,Tryz.ntmps20
 go_wp2
 go_loopw [3,4] (fun v i wr=>∃(j:Nat),j≤n∧i=.int .i64 (j:Nat)∧FrE opE W wr v ((L.take j).map Ac16.op)) (fun _ i _=>n-(intOf i).toNat)
 case atStart=>exact ⟨0,by omega,rfl,FrE.nil _ _⟩
 case round=>
  obtain ⟨j,hj,rfl,hfr⟩:=hrel
  by_cases hjn:j<n
  · obtain ⟨x,hx⟩:∃x,L[j]? =some x:=⟨_,jE (by have:=HL.out;omega)⟩
    obtain ⟨g,o,rfl,hg,hc⟩:=(HP.out _ hfr.2).at_ (by have:=HL.out;omega)
    have k1:wr.cell? ⟨g,o+j*7+1,none⟩=some (.int .i64 x.kind):=hc j x hx 1 _ rfl
    have k2:wr.cell? ⟨g,o+j*7+1+1,none⟩=some (.int .i64 x.pid):=hc j x hx 2 _ rfl
    have k3:wr.cell? ⟨g,o+j*7+1+2,none⟩=some (.int .i64 x.at_):=hc j x hx 3 _ rfl
    have k4:wr.cell? ⟨g,o+j*7+1+3,none⟩=some (.int .i64 x.n):=hc j x hx 4 _ rfl
    have k5:wr.cell? ⟨g,o+j*7+1+4,none⟩=some (.int .i64 x.prot):=hc j x hx 5 _ rfl
    have k6:wr.cell? ⟨g,o+j*7+1+5,none⟩=some (.slice x.A x.m x.c):=hc j x hx 6 _ rfl
    have hjI:(j:Int)<(n:Int):=by omega
    have hln:((L.take j).map Ac16.op).length=j:=by rw [List.length_map,List.length_take];have:=HL.out;omega
    obtain ⟨A1,c1,rfl,_⟩:=hfr.1.form
    obtain ⟨A2,c2,w3,hr3,hf3,ho3⟩:=hfr.push x.op 47 (by rw [hln];omega) 130
    rw [hln] at hr3 hf3
    rw [←take_map _ hx] at hf3
    have HF3:=hJ hf3
    rw [hln]
    clear hc hx hf3 ho3 hfr hln
    go_wp2_with (at_builtin;go_must (refine wpList_append_run rfl (.tmp 11) (.tmp 17) 130 rfl _ _ rfl rfl hr3 ?_))
    go_roundw
    case rel=>exact ⟨j+1,by omega,by go_num,HF3.out⟩
    case measure=>simp [intOf];omega
  · obtain rfl:j=n:=by omega
    have hj2:¬(j:Int)<(j:Int):=by omega
    have htk:L.take j=L:=List.take_of_length_le (by have:=HL.out;omega)
    rw [htk] at hfr
    have hln:(L.map Ac16.op).length=j:=by rw [List.length_map];exact HL.out
    obtain ⟨A1,c1,rfl,hc1⟩:=hfr.1.form
    have HB:=hJ hfr.2
    have HRG:=hJ hfr.1.rg
    rw [hln]
    have HF:Hid (few16B L=(decide ((j:Int)≤100) && fewR (L.map Ac16.op))):=hJ (by
     unfold few16B
     rw [HL.out]
     congr 1
     exact decide_eq_decide.2 (by omega))
    obtain ⟨r,hr⟩:∃r,fewR (L.map Ac16.op)=r:=⟨_,rfl⟩
    rw [hr] at HF
    by_cases hc:(j:Int)≤100
    · have HFW:=hJ (mFew_any (c:=c1) HRG.out (HS.out (by have:=HL.out;omega)) (by rw [hln];omega))
      rw [hln,hr] at HFW
      clear hfr htk hln hr
      rw [decide_eq_true hc] at HF
      go_wp2_with (go_at_call 69;refine HFW.out.mono ?_;rintro e w4 ⟨rfl,rfl⟩)
      go_ret
      exact ⟨by rw [HF.out];rfl,HB.out⟩
    · clear hfr htk hln hr
      rw [decide_eq_false hc] at HF
      go_wp2
      go_ret
      exact ⟨by rw [HF.out];rfl,HB.out⟩
set_option maxRecDepth 100000
set_option maxHeartbeats 4000000
structure ShS where
 L:List Bytes
 bad:Int
 other:Bytes
 full:Int
 gets:Int
def shK:SnkF ShS where
 get s a:=
  if a.1<1∨(s.L.length:Int)<a.1 then ({s with gets:=inc64 s.gets},[],20)
  else if a.2≠13+((s.L.getD (a.1-1).toNat []).length:Int) then ({s with gets:=inc64 s.gets},[],20)
  else ({s with gets:=inc64 s.gets},if s.bad=a.1-1 then s.other else s.L.getD (a.1-1).toNat [],0)
 put s b:=if s.full=0 then (s,(0,0),7) else ({s with L:=s.L ++ [b],full:=if 0<s.full then s.full-1 else s.full},((s.L.length:Int)+1,13+(b.length:Int)),0)
 Rdy s n:=s.L.length+n≤2147483647∧(∀b∈s.L,b.length≤1000000)∧s.other.length≤1000000∧s.full<9223372036854775808
theorem shK_good:shK.Good where
 mono s n m h hm:=⟨by have:=h.1;omega,h.2⟩
 getR s a n h:=by
  simp only [shK]
  split
  · exact h
  · split<;>exact h
 putR s b n h hb:=by
  simp only [shK]
  split
  · exact ⟨by have:=h.1;show s.L.length+n≤_;omega,h.2⟩
  · refine ⟨by have:=h.1;simp;omega,fun x hx=>?_,h.2.2.1,?_⟩
    · rcases List.mem_append.1 hx with hx|hx
      · exact h.2.1 x hx
      · rw [List.mem_singleton.1 hx];omega
    · have:=h.2.2.2
      simp only
      split<;>omega
 getB s a h h0:=by
  simp only [shK] at h0
  have h1:=h.1
  split at h0
  · simp at h0
  · rename_i g1
    split at h0
    · simp at h0
    · rename_i g2
      have h3:(s.L.getD (a.1-1).toNat []).length≤1000000:=by
       rw [List.getD_eq_getElem?_getD]
       cases hx:s.L[(a.1-1).toNat]? with
       |none=>simp
       |some b=>exact h.2.1 b (jG hx)
      unfold Bd
      omega
 putB s b h hb h0:=by
  simp only [shK] at h0 ⊢
  split at h0
  · simp at h0
  · rename_i g1
    have h1:=h.1
    rw [if_neg g1]
    unfold Bd
    simp only
    omega
structure ShIn (w:World) (S:Nat) (rv:Value) (vs:List Value) (ov:Value) (s:ShS):Prop where
 c0:w.cell? ⟨S,0,none⟩=some rv
 c1:w.cell? ⟨S,1,none⟩=some (.int .i64 s.bad)
 c2:w.cell? ⟨S,2,none⟩=some ov
 c3:w.cell? ⟨S,3,none⟩=some (.int .i64 s.full)
 c4:w.cell? ⟨S,4,none⟩=some (.int .i64 s.gets)
 fr:∀k,w.frozen? ⟨S,k,none⟩=false
 row:w.ownsRow 0 24 1 rv vs.length vs
 len:vs.length=s.L.length
 it:∀(i:Nat) v b,vs[i]? =some v→s.L[i]? =some b→SlB w v b
 ot:SlB w ov s.other
 neR:rv.ownBlock≠some S
 neI:∀v∈vs,VIn (fun b=>b≠S∧rv.ownBlock≠some b) v
 neO:VIn (fun b=>b≠S∧rv.ownBlock≠some b) ov
 sz:shK.Rdy s 0
 big:∀k,5≤k→w.cell? ⟨S,k,none⟩=none
def ShAt (S:Nat) (w:World) (O:Nat→Prop) (s:ShS):Prop:=
 ∃rv vs ov,ShIn w S rv vs ov s∧O S∧(∀g,rv.ownBlock=some g→O g)∧(∀v∈vs,VIn O v)∧VIn O ov∧∀k,O k→k<w.heap.size
theorem row_off {S:Nat→Prop} {w w':World} {v:Value} {t:TypeId} {n:Nat} {xs:List Value} (h:w.ownsRow 0 t 1 v n xs) (ho:Off S w w') (hs:∀g,v.ownBlock=some g→¬S g):w'.ownsRow 0 t 1 v n xs:=by
 refine ⟨h.1,?_⟩
 rcases h.2 with hn|⟨g,cap,cur,rfl,hb,hgg,rest⟩
 · exact .inl hn
 · exact .inr ⟨g,cap,cur,rfl,hb,(ho.block g (Array.getElem?_eq_some_iff.1 hgg).1 (hs g rfl)).trans hgg,rest⟩
section
variable {w w':World} {S:Nat} {rv ov:Value} {vs:List Value} {s:ShS} {O P:Nat→Prop}
theorem ShIn.noBy (h:ShIn w S rv vs ov s) {v:Value} {L:Bytes} (hv:SlB w v L):VIn (fun b=>¬b=S) v:=by
 intro b o n c e h0 hb
 subst hb
 obtain ⟨A,n',c',rfl,h1,h2⟩:=hv
 cases e
 obtain ⟨b',o',e',hlt,hc⟩:=h2.2 h0
 cases e'
 have h3:=hc 0 h0
 rw [Nat.add_zero] at h3
 obtain ⟨A2,n2,c2,e2,_⟩:=h.ot
 have hrv:∃A3 n3 c3,rv=.slice A3 n3 c3:=by
  rcases h.row.2 with ⟨rfl,_⟩|⟨g,cap,cur,rfl,_⟩
  · exact ⟨_,_,_,rfl⟩
  · exact ⟨_,_,_,rfl⟩
 obtain ⟨A3,n3,c3,e3⟩:=hrv
 rcases Nat.lt_or_ge o 5 with ho|ho
 · have hcs:o=0∨o=1∨o=2∨o=3∨o=4:=by omega
   rcases hcs with rfl|rfl|rfl|rfl|rfl
   · rw [h.c0,e3] at h3;cases h3
   · rw [h.c1] at h3;cases h3
   · rw [h.c2,e2] at h3;cases h3
   · rw [h.c3] at h3;cases h3
   · rw [h.c4] at h3;cases h3
 · rw [h.big o ho] at h3;cases h3
theorem ShIn.lt (h:ShIn w S rv vs ov s):S<w.heap.size:=lt_of_cell h.c0
theorem ShIn.off (h:ShIn w S rv vs ov s) (ho:Off P w w') (h1:¬P S) (h2:∀g,rv.ownBlock=some g→¬P g) (h3:∀v∈vs,VIn (fun b=>¬P b) v) (h4:VIn (fun b=>¬P b) ov):ShIn w' S rv vs ov s:=
 ⟨(ho.cell (p:=⟨S,0,none⟩) h.lt h1).trans h.c0,(ho.cell (p:=⟨S,1,none⟩) h.lt h1).trans h.c1,(ho.cell (p:=⟨S,2,none⟩) h.lt h1).trans h.c2,(ho.cell (p:=⟨S,3,none⟩) h.lt h1).trans h.c3,(ho.cell (p:=⟨S,4,none⟩) h.lt h1).trans h.c4,
  fun k=>(ho.frozen (p:=⟨S,k,none⟩) h.lt h1).trans (h.fr k),row_off h.row ho h2,h.len,fun i v b e1 e2=>(h.it i v b e1 e2).offP ho (h3 v (jG e1)),h.ot.offP ho h4,h.neR,h.neI,h.neO,h.sz,fun k hk=>(ho.cell (p:=⟨S,k,none⟩) h.lt h1).trans (h.big k hk)⟩
theorem ShIn.up (h:ShIn w S rv vs ov s) (hb:Below w.heap.size w w'):ShIn w' S rv vs ov s:=h.off (P:=fun _=>False) (Off.of_below hb) id (fun _ _=>id) (fun _ _ _ _ _ _ _ _=>id) (fun _ _ _ _ _ _=>id)
theorem ShAt.off (h:ShAt S w O s) (ho:Off P w w') (hs:∀k,P k→¬O k):ShAt S w' O s:=by
 obtain ⟨rv,vs,ov,h1,h2,h3,h4,h5,h6⟩:=h
 exact ⟨rv,vs,ov,h1.off ho (fun e=>hs _ e h2) (fun g hg e=>hs _ e (h3 g hg)) (fun v hv=>(h4 v hv).mono fun b hb e=>hs _ e hb) (h5.mono fun b hb e=>hs _ e hb),h2,h3,h4,h5,fun k hk=>Nat.lt_of_lt_of_le (h6 k hk) ho.size⟩
theorem ShAt.lt {k:Nat} (h:ShAt S w O s) (hk:O k):k<w.heap.size:=by
 obtain ⟨rv,vs,ov,h1,h2,h3,h4,h5,h6⟩:=h
 exact h6 k hk
theorem ShIn.setGets (h:ShIn w S rv vs ov s) (x:Int):ShIn (w.setCell ⟨S,4,none⟩ (.int .i64 x)) S rv vs ov {s with gets:=x}:=by
 have ho:Off (· =S) w (w.setCell ⟨S,4,none⟩ (.int .i64 x)):=(Off.refl (· =S) w).setCell (p:=⟨S,4,none⟩) rfl _
 have oc:∀k,k≠4→(w.setCell ⟨S,4,none⟩ (.int .i64 x)).cell? ⟨S,k,none⟩=w.cell? ⟨S,k,none⟩:=fun k hk=>World.cell?_setCell_other _ _ _ _ (fun e=>by injection e with _ e2;omega)
 exact ⟨(oc 0 (by omega)).trans h.c0,(oc 1 (by omega)).trans h.c1,(oc 2 (by omega)).trans h.c2,(oc 3 (by omega)).trans h.c3,World.cell?_setCell_same _ _ _ h.c4,fun k=>(World.frozen?_setCell _ _ _ _).trans (h.fr k),
  row_off h.row ho (fun g hg e=>h.neR (by rw [hg,e])),h.len,fun i v b e1 e2=>(h.it i v b e1 e2).offP ho ((h.neI v (jG e1)).mono fun b hb=>hb.1),h.ot.offP ho (h.neO.mono fun b hb=>hb.1),h.neR,h.neI,h.neO,h.sz,fun k hk=>(oc k (by omega)).trans (h.big k hk)⟩
end
theorem shGet_none {S:Nat} {w w':World} {O:Nat→Prop} {s:ShS} {a:Int×Int} {s':ShS} (h:shK.get s a=(s',[],20)) (h1:ShAt S w' O s') (h2:Off O w w'):GePost (ShAt S) shK w O s a (.returned (.tuple #[.slice none 0 0,.int .i64 20])) w':=by
 unfold GePost
 rw [h]
 exact ⟨_,rfl,h1,h2,⟨none,0,0,rfl,Nat.le_refl _,SBy.nil _ _,fun a e=>(by cases e)⟩,fun b o n c e=>(by cases e),by simp⟩
theorem shGet_some {S:Nat} {w w':World} {O:Nat→Prop} {s:ShS} {a:Int×Int} {s':ShS} {L:Bytes} {v:Value} (h:shK.get s a=(s',L,0)) (h1:ShAt S w' O s') (h2:Off O w w') (h3:SlA w' v L) (h4:∀b o n c,v=.slice (some ⟨b,o,none⟩) n c→w.heap.size≤b) (h5:L.length≤2 ^ 40):
 GePost (ShAt S) shK w O s a (.returned (.tuple #[v,.int .i64 0])) w':=by
 unfold GePost
 rw [h]
 exact ⟨_,rfl,h1,h2,h3,h4,h5⟩
theorem shGet_any {S:Nat} {w:World} {O:Nat→Prop} {s:ShS} (a:Int×Int) (h:ShAt S w O s):Calls Tryz.prog 229 #[.pointer (some ⟨S,0,none⟩),addrV a] w (GePost (ShAt S) shK w O s a):=by
 obtain ⟨rv,vs,ov,h1,h2,h3,h4,h5,h6⟩:=h
 obtain ⟨a0,a1⟩:=a
 obtain ⟨Ar,cr,hrv⟩:∃Ar cr,rv=.slice Ar vs.length cr:=by
  rcases h1.row.2 with ⟨rfl,h0⟩|⟨g,cap,cur,rfl,_⟩
  · exact ⟨_,_,by rw [h0]⟩
  · exact ⟨_,_,rfl⟩
 have hlen:=h1.len
 have HI:=hJ h1
 have HS:=hJ h2
 have H3:=hJ h3
 have H4:=hJ h4
 have H5:=hJ h5
 have H6:=hJ h6
 have q4:=h1.c4
 have f4:=h1.fr 4
 have lS:=h1.lt
 clear h1 h2 h3 h4 h5 h6
 unfold addrV
 go_enter Tryz.func229,Tryz.ntmps229
 go_upto_region 2 with (fail)
 refine wp_forget (fun V=>ShIn V S rv vs ov {s with gets:=inc64 s.gets}∧BoxA V w.heap.size (a0,a1)∧Off O w V) ?_ ?_
 · have hal:=fun (W:World) (o:Obj)=>(Below.refl W.heap.size W).alloc jN o
   have e1:(w.setCell ⟨S,4,none⟩ (.int .i64 (wrap64 (s.gets+1)))).heap.size=w.heap.size:=by simp
   have hb:=BoxA.new (w.setCell ⟨S,4,none⟩ (.int .i64 (wrap64 (s.gets+1)))) 149 (a0,a1)
   rw [e1] at hb
   exact ⟨(HI.out.setGets (inc64 s.gets)).up (hal _ _),hb,((Off.refl O w).setCell (p:=⟨S,4,none⟩) HS.out _).step (hal _ _)⟩
 rintro V ⟨hi,hb,ho⟩
 have HI2:=hJ hi
 have HO:=hJ ho
 have HAT:Hid (∀W,Below V.heap.size V W→ShAt S W O {s with gets:=inc64 s.gets}∧Off O w W):=hJ (fun W hbb=>⟨⟨rv,vs,ov,hi.up hbb,HS.out,H3.out,H4.out,H5.out,fun k hk=>Nat.lt_of_lt_of_le (H6.out k hk) (Nat.le_trans ho.size hbb.size)⟩,ho.step hbb⟩)
 have b0:=hb.1
 have b1:=hb.2.1
 simp only at b0 b1
 have lB:=hb.lt
 have q0:=hi.c0
 have q1:=hi.c1
 have q2:=hi.c2
 have lS2:=hi.lt
 rw [hrv] at q0
 have HRV:=hJ hrv
 have hsz:=hi.sz
 have HSZ:=hJ hsz
 have hL31:=hsz.1
 simp only at hL31
 clear hi hb ho q4 f4 HI hrv hsz
 have HG:Hid (shK.get s (a0,a1)=if a0<1∨(s.L.length:Int)<a0 then ({s with gets:=inc64 s.gets},[],20)
  else if a1≠13+((s.L.getD (a0-1).toNat []).length:Int) then ({s with gets:=inc64 s.gets},[],20)
  else ({s with gets:=inc64 s.gets},if s.bad=a0-1 then s.other else s.L.getD (a0-1).toNat [],0)):=hJ rfl
 rw [←hlen] at HG hL31
 have HLEN:=hJ hlen
 clear hlen
 by_cases g1:a0<1
 · have hg:=HG.out
   rw [if_pos (.inl g1)] at hg
   have HG2:=hJ hg
   clear hg HG
   refine wp_region_up (by kernel_rfl) (by kernel_rfl) ?_
   repeat (go_big_quiet_step (fail))
   refine wpQuiet_nil ?_
   rintro _ ⟨g,rfl⟩
   go_wp2
   go_ret2
   exact shGet_none HG2.out (HAT.out _ g.h).1 (HAT.out _ g.h).2
 by_cases g2:(vs.length:Int)<a0
 · have hg:=HG.out
   rw [if_pos (.inr g2)] at hg
   have HG2:=hJ hg
   clear hg HG
   refine wp_region_up (by kernel_rfl) (by kernel_rfl) ?_
   repeat (go_big_quiet_step (fail))
   refine wpQuiet_nil ?_
   rintro _ ⟨g,rfl⟩
   go_wp2
   go_ret2
   exact shGet_none HG2.out (HAT.out _ g.h).1 (HAT.out _ g.h).2
 obtain ⟨j,hj⟩:∃j:Nat,a0=(j:Int)+1:=⟨(a0-1).toNat,by omega⟩
 subst hj
 have hjl:j<vs.length:=by omega
 obtain ⟨vj,hvj⟩:∃v,vs[j]? =some v:=⟨_,jE hjl⟩
 obtain ⟨bj,hbj⟩:∃b,s.L[j]? =some b:=⟨_,jE (by rw [←HLEN.out];exact hjl)⟩
 obtain ⟨Aj,nj,cj,rfl,hcj,hsj⟩:=HI2.out.it j _ _ hvj hbj
 obtain ⟨gr,hgr⟩:∃gr,Ar=some ⟨gr,0,none⟩:=by
  rcases HI2.out.row.2 with ⟨e,h0⟩|⟨g,cap,cur,e,_⟩
  · rw [h0] at hjl;simp at hjl
  · rw [HRV.out] at e
    cases e
    exact ⟨_,rfl⟩
 subst hgr
 have ck:=World.ownsRow.cells HI2.out.row (g:=gr) (by rw [HRV.out];rfl) j _ hvj
 rw [show (⟨gr,0,none⟩:Addr).add j=⟨gr,j,none⟩ by unfold Addr.add;split<;>simp_all] at ck
 have lG:gr<V.heap.size:=lt_of_cell ck
 have hlj:=hsj.1
 have hg:=HG.out
 rw [if_neg (by omega),show ((j:Int)+1-1).toNat=j by omega,show ((j:Int)+1-1)=(j:Int) by omega,List.getD_eq_getElem?_getD,hbj] at hg
 simp only [Option.getD_some,hlj] at hg
 have HG2:=hJ hg
 have HSJ:=hJ hsj
 have hw1:IntKind.i64.wrap ((j:Int)+1-1)=(j:Int):=by
  rw [show (j:Int)+1-1=(j:Int) by omega]
  exact IntWalk.i64_in _ (by omega)
 have hnj:nj≤1000000:=by
  rw [←hlj]
  exact HSZ.out.2.1 _ (jG hbj)
 have hjI:(j:Int)<(vs.length:Int):=by omega
 have k1:decide ((j:Int)+1<1)=false:=by simp;omega
 have k2:decide ((vs.length:Int)<(j:Int)+1)=false:=by simp;omega
 clear hg HG hsj hlj hvj hbj
 refine wp_region_up (by kernel_rfl) (by kernel_rfl) ?_
 repeat (go_big_quiet_step (fail))
 refine wpQuiet_nil ?_
 rintro _ ⟨g,rfl⟩
 go_upto_region 4 with (fail)
 refine wp_region_upW (by kernel_rfl) (by kernel_rfl) ?_
 repeat (go_big_quiet_step (fail))
 refine wpQuiet_nil ?_
 rintro _ ⟨g2,rfl⟩
 go_upto_region 5 with (fail)
 refine wp_region_upW (by kernel_rfl) (by kernel_rfl) ?_
 repeat (go_big_quiet_step (fail))
 refine wpQuiet_nil ?_
 rintro _ ⟨g3,rfl⟩
 obtain ⟨Ao,no,co,hov,_,hso⟩:=HI2.out.ot
 rw [hov] at q2
 have HSO:=hJ hso
 have HOV:=hJ hov
 clear hso hov
 obtain ⟨Ax,nx,cx,Lx,hx⟩:∃Ax nx cx,∃Lx:Bytes,(if s.bad=(j:Int) then Value.slice Ao no co else .slice Aj nj cj)=.slice Ax nx cx∧SBy V Ax nx Lx∧nx≤1000000∧(if s.bad=(j:Int) then s.other else bj)=Lx:=by
  by_cases h:s.bad=(j:Int)
  · rw [if_pos h,if_pos h]
    exact ⟨_,_,_,_,rfl,HSO.out,by rw [←HSO.out.1];exact HSZ.out.2.2.1,rfl⟩
  · rw [if_neg h,if_neg h]
    exact ⟨_,_,_,_,rfl,HSJ.out,hnj,rfl⟩
 obtain ⟨x1,x2,x3,x4⟩:=hx
 have HX2:=hJ x2
 have HX1:=hJ x1
 have HX4:=hJ x4
 clear x1 x2 x4
 go_upto_if 43 with (fail)
 go_cut [6] from 43 to 47 (fun s6 wc=>s6=.slice Ax nx cx∧wc=g3.world)
 case first=>
  have x1:=HX1.out
  by_cases h:s.bad=(j:Int)
  · rw [if_pos h] at x1
    have HX:=hJ x1
    have hb:=beq_iff_eq.2 h
    clear h x1 HX1
    go_wp2_with fail
    go_meet
    exact ⟨HX.out,rfl⟩
  · rw [if_neg h] at x1
    have HX:=hJ x1
    have hb:(s.bad==(j:Int))=false:=by simp [h]
    clear h x1 HX1
    go_wp2_with fail
    go_meet
    exact ⟨HX.out,rfl⟩
 case rest=>
 obtain ⟨rfl,rfl⟩:=hcut
 go_upto_region 7 with (fail)
 refine wp_region_upW (by kernel_rfl) (by kernel_rfl) ?_
 repeat (go_big_quiet_step (fail))
 refine wpQuiet_nil ?_
 rintro _ ⟨g4,rfl⟩
 by_cases h:a1=13+(nj:Int)
 case neg=>
  have hb:(a1 !=13+(nj:Int))=true:=by simp [h]
  have hg:=HG2.out
  rw [if_pos h] at hg
  have HG3:=hJ hg
  clear hg HG2 h
  go_wp2
  go_ret2
  exact shGet_none HG3.out (HAT.out _ g4.h).1 (HAT.out _ g4.h).2
 have hb:(a1 !=13+(nj:Int))=false:=by simp [h]
 have hg:=HG2.out
 rw [if_neg (fun e=>e h),HX4.out] at hg
 have HG3:=hJ hg
 clear hg HG2 h
 go_upto_region 9 with (fail)
 refine wp_forget (fun W=>Below V.heap.size V W) g4.h ?_
 intro W1 hb1
 have HB1:=hJ hb1
 have HSX:=hJ (HX2.out.off (S:=fun _=>False) (Off.of_below hb1) (fun _ _ _=>id))
 clear hb1
 go_wp2_with (at_builtin;go_must (refine wpList_appF rfl (.tmp 62) (.tmp 63) rfl W1 (.slice (some ⟨W1.heap.size,0,none⟩) 0 0) [] Lx rfl (FrB.lit W1) Ax nx cx rfl (HSX.out.alloc _) (by simp;omega) nx (by simp) ?_);intro A' c' w1 h1 hgg)
 have H1:=hJ h1
 clear h1 hgg
 go_wp2
 go_ret2
 have hf:=H1.out
 have hs:=hf.slA
 exact shGet_some HG3.out (HAT.out _ (HB1.out.trans (hf.bel.mono HB1.out.size))).1 (HAT.out _ (HB1.out.trans (hf.bel.mono HB1.out.size))).2 (by simpa using hs.1) (fun b o n c e=>Nat.le_trans (Nat.le_trans HO.out.size HB1.out.size) (hs.2 b o n c e)) (by rw [HX2.out.1];omega)
end Go.Proofs.YtlhfjaagkgengaaGreat
