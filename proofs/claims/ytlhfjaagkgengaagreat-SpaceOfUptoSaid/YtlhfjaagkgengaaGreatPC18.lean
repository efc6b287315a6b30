/- A space on a pager; what a load tells. A space: Load. A space: Load, walked. A space: fresh (facts). -/
import Derived.Test.YtlhfjaagkgengaaGreatPC17
namespace Go.Proofs.YtlhfjaagkgengaaGreat
set_option maxRecDepth 100000
set_option maxHeartbeats 8000000
open Go.RowKit Go.Maps
set_option linter.unusedVariables false
set_option linter.unusedSimpArgs false
structure SS {σ:Type} {K:SnkF σ} (M:Snk K) (P:PSnk K) (w:World) (d:PD) (t:PSt σ) (C:Cu) (k:Nat) (D:SpD) (A:Option Addr) (cap:Nat) (L:List Rg) (m:Int→Option Int) (n:Nat):Prop where
 sp:SpAt w D A cap L m n
 pv:Pv M P w d t C k
 ok:D.Ok
 q:D.Q=d.Q
 z:D.pg=d.z
 sep:∀k,spO D A L.length k→¬Own d t k
 has:∀i id,m i=some id→∃p,C id=some p
 len:L.length≤10000
def memF (z:Nat) (C:Cu) (m:Int→Option Int) (i:Nat):Bytes:=match m (i:Nat) with
 |none=>zeros z
 | some id=>match C id with
   |none=>zeros z
   |some p=>p.1
def loadF (mem:Nat→Bytes) (ps:List Pt):Bytes:=ps.flatMap fun x=>secP (mem x.p) x.o x.n
theorem secP_len {b:Bytes} {o n:Nat} (h:o+n≤b.length):(secP b o n).length=n:=by
 unfold secP
 rw [List.length_take,List.length_drop]
 omega
theorem secP_zeros {z o n:Nat} (h:o+n≤z):secP (zeros z) o n=zeros n:=by
 unfold secP zeros
 rw [List.drop_replicate,List.take_replicate]
 congr 1
 omega
theorem partsN_in (z:Nat) (hz:0<z):∀(f a n:Nat) (x:Pt),x∈partsN z f a n→x.o+x.n≤z∧1≤x.n∧x.o<z∧a / z≤x.p∧x.p*z+x.o+x.n≤a+n
 |0,_,_,x,h=>by simp [partsN] at h
 | f + 1,a,n,x,h=>by
   have hm:=Nat.mod_lt a hz
   have hdm:=Nat.div_add_mod a z
   unfold partsN at h
   split at h
   · simp at h
   · rcases List.mem_cons.1 h with rfl|h
     · refine ⟨by simp only;omega,by simp only;omega,hm,Nat.le_refl _,?_⟩
       simp only
       rw [Nat.mul_comm]
       omega
     · obtain ⟨h1,h2,h3,h4,h5⟩:=partsN_in z hz f _ _ x h
       exact ⟨h1,h2,h3,Nat.le_trans (Nat.div_le_div_right (by omega)) h4,by omega⟩
theorem partsL_in {z a n:Nat} (hz:0<z) {x:Pt} (h:x∈partsL z a n):x.o+x.n≤z∧1≤x.n∧x.o<z∧a / z≤x.p∧x.p*z+x.o+x.n≤a+n:=partsN_in z hz n a n x h
section
variable {σ:Type} {K:SnkF σ} {M:Snk K} {P:PSnk K} {w w' w1 w2:World} {d:PD} {t t' t1 t2:PSt σ} {C C':Cu} {k k1 k2:Nat} {D:SpD} {A:Option Addr} {cap n:Nat} {L:List Rg} {m:Int→Option Int}
theorem memF_len (h:SS M P w d t C k D A cap L m n) (i:Nat):(memF d.z C m i).length=d.z:=by
 unfold memF
 cases hm:m (i:Nat) with
 |none=>exact zeros_length _
 | some id=>
   obtain ⟨⟨b,u⟩,hp⟩:=h.has _ id hm
   simp only [hp]
   obtain ⟨_,_,_,hl,_⟩:=h.pv.con id b u hp
   exact hl
theorem SS.up (h:SS M P w d t C k D A cap L m n) (hb:Below w.heap.size w w'):SS M P w' d t C k D A cap L m n:=⟨h.sp.up hb,h.pv.up hb,h.ok,h.q,h.z,h.sep,h.has,h.len⟩
theorem SS.less (hK:K.Good) (h:SS M P w d t C k D A cap L m n) {k':Nat} (hk:k'≤k):SS M P w d t C k' D A cap L m n:=⟨h.sp,h.pv.less hK hk,h.ok,h.q,h.z,h.sep,h.has,h.len⟩
theorem SS.offL {S:Nat→Prop} (h:SS M P w d t C k D A cap L m n) (ho:Off S w w') (h1:∀b,S b→¬Own d t b) (h2:∀b,S b→¬spO D A L.length b):SS M P w' d t C k D A cap L m n:=
 ⟨h.sp.off ho h2,h.pv.offL ho h1,h.ok,h.q,h.z,h.sep,h.has,h.len⟩
theorem SS.pg (h:SS M P w d t C k D A cap L m n) (hv:Pv M P w' d t' C' k1) (hx:Nx P w w' d t t') (hh:∀i id,m i=some id→∃p,C' id=some p):SS M P w' d t' C' k1 D A cap L m n:=
 ⟨h.sp.off hx.off (fun k e e2=>h.sep k e2 e),hv,h.ok,h.q,h.z,fun k hk=>(hx.keep (h.sp.lt hk) (h.sep k hk)).2,hh,h.len⟩
theorem SS.look (h:SS M P w d t C k D A cap L m n) {p:Nat} (hp:p≤300000000) (ok:Bool):
 (Instr.lookup 112 (.map (some D.Mm)) (.int .i64 (p:Nat)) ok).run Tryz.prog w=.ok (match m (p:Nat) with
  |none=>if ok then .tuple #[.int .i64 0,.bool false] else .int .i64 0
  |some id=>if ok then .tuple #[.int .i64 id,.bool true] else .int .i64 id) w:=by
 rw [MapIs.look h.sp.mp intKeyed Tryz.underlying112 (by kernel_rfl:(zeroValue 3).run Tryz.prog w=.ok (.int .i64 0) w) (keyOf_int_mk Tryz.underlying3 (int_wf (by omega))) ok,spF_at]
 cases m (p:Nat)<;>cases ok<;>rfl
theorem wpList_append_run2 {P:Program} {ops:Array Oper} {rest:List Oper} {o:Oper} {a:Act} {w w':World} {Q:Exit→Act→World→Prop} (hgd:o.guard=none) (s x:Operand) (t1 t2:TypeId) (ho:o.op=.call {callee:=.builtin .append,args:=#[s,x],argTypes:=#[t1,t2]})
 (v xv:Value) (hs:a.eval s=v) (hx:a.eval x=xv) {v':Value} (hr:(Builtin.append_ #[t1,t2] o.type #[v,xv]).run P w=.ok v' w') (h:wpList P ops Q rest (a.put o.dst v') w'):wpList P ops Q (o::rest) a w:=by
 refine wpList_plain hgd fun K hK=>?_
 unfold Oper.wp execOp
 simp only [ho,resolve,invoke,builtin,Sem.run_bind,Sem.run_pure,Result.andThen_ok,List.map_toArray,List.map_cons,List.map_nil,hs,hx,hr]
 exact hK _ _ h
structure ApAt (B:Nat) (w w':World) (v:Value) (A':Option Addr) (n' c':Nat) (X:Bytes):Prop where
 own:OwB B w' (.slice A' n' c') X
 off:Off (fun k=>v.ownBlock=some k) w w'
 some:(Value.slice A' n' c').ownBlock≠none
 at_:(Value.slice A' n' c').ownBlock=v.ownBlock∨(Value.slice A' n' c').ownBlock=Option.some w.heap.size
theorem app_zero {B:Nat} {v:Value} {X:Bytes} (h:OwB B w v X) (hv:v.ownBlock≠none) (hB:B≤w.heap.size) (j:Nat) (hlen:X.length+j≤1073741824):
 ∃A' c' w',(Builtin.append_ #[24,3] 24 #[v,.int .i64 (j:Nat)]).run Tryz.prog w=.ok (.slice A' (X.length+j) c') w'∧ApAt B w w' v A' (X.length+j) c' (X ++ zeros j):=by
 obtain ⟨v',w',hr,h1,h2,h3⟩:=run_appZ2 h hv hB hlen 24
 obtain ⟨A',c',rfl,_⟩:=h1.form
 rw [List.length_append,zeros_length] at hr h1 h3
 exact ⟨A',c',w',hr,h1,grown_off h2,by rcases h3 with e|e<;>rw [e];exact hv;simp,h3⟩
theorem app_bytes {B:Nat} {v:Value} {X Y:Bytes} (h:OwB B w v X) (hv:v.ownBlock≠none) (hB:B≤w.heap.size) {A:Option Addr} {j c:Nat} (hS:SBy w A j Y) (hlen:X.length+j≤1073741824):
 ∃A' c' w',(Builtin.append_ #[24,24] 24 #[v,.slice A j c]).run Tryz.prog w=.ok (.slice A' (X.length+j) c') w'∧ApAt B w w' v A' (X.length+j) c' (X ++ Y):=by
 obtain ⟨v',w',hr,h1,h2,h3⟩:=run_app (c:=c) h hS hB (by omega) 24
 obtain ⟨A',c',rfl,_⟩:=h1.form
 rw [List.length_append,hS.1] at hr h1 h3
 exact ⟨A',c',w',hr,h1,grown_off h2,by rcases h3 with e|e<;>rw [e];exact hv;simp,h3⟩
end
set_option maxRecDepth 100000
set_option maxHeartbeats 8000000
section
variable {σ:Type} {K:SnkF σ} {M:Snk K} {P:PSnk K} {w w' w1 w2 wr:World} {d:PD} {t t' t1 t2:PSt σ} {C C':Cu} {k k1 k2:Nat} {D:SpD} {A:Option Addr} {cap n:Nat} {L:List Rg} {m:Int→Option Int}
theorem Nx.offN {S:Nat→Prop} (h:Nx P w w1 d t t') (ho:Off S w1 w2) (hS:∀k,S k→w.heap.size≤k):Nx P w w2 d t t':=
 ⟨h.off.late ho (fun i hi hs=>by have:=hS i hs;omega),h.own,h.rm⟩
structure LdI {σ:Type} {K:SnkF σ} (M:Snk K) (P:PSnk K) (w wr:World) (d:PD) (t t':PSt σ) (C:Cu) (k:Nat) (D:SpD) (A:Option Addr) (cap:Nat) (L:List Rg) (m:Int→Option Int) (n:Nat) (v:Value) (X:Bytes) (Bp:Option Addr) (ps:List Pt):Prop where
 ss:SS M P wr d t' C k D A cap L m n
 nx:Nx P w wr d t t'
 e1:t'.nx=t.nx
 e2:t'.cm=t.cm
 own:OwB w.heap.size wr v X
 ne:v.ownBlock≠none
 nO:∀g,v.ownBlock=some g→¬Own d t' g
 row:RgAt wr Bp (ps.map Pt.rg)
 rO:∀g,rgO Bp ps.length g→w.heap.size≤g∧¬Own d t' g∧v.ownBlock≠some g
variable {v:Value} {X Y:Bytes} {Bp:Option Addr} {ps:List Pt}
theorem LdI.up (h:LdI M P w w1 d t t' C k D A cap L m n v X Bp ps) (hb:Below w1.heap.size w1 w2):LdI M P w w2 d t t' C k D A cap L m n v X Bp ps:=
 ⟨h.ss.up hb,h.nx.up hb,h.e1,h.e2,h.own.up hb,h.ne,h.nO,h.row.up hb,h.rO⟩
theorem LdI.pg (h:LdI M P w w1 d t t' C k D A cap L m n v X Bp ps) {t'':PSt σ} (hv:Pv M P w2 d t'' C k1) (hx:Nx P w1 w2 d t' t'') (e1:t''.nx=t'.nx) (e2:t''.cm=t'.cm):LdI M P w w2 d t t'' C k1 D A cap L m n v X Bp ps:=
 ⟨h.ss.pg hv hx h.ss.has,h.nx.trans hx,e1.trans h.e1,e2.trans h.e2,h.own.off hx.off (fun g e e2=>h.nO g e e2),h.ne,fun g e=>(hx.keep (h.own.lt g e).2 (h.nO g e)).2,h.row.off hx.off (fun g e e2=>(h.rO g (by simpa using e2)).2.1 e),fun g hg=>by
  obtain ⟨a,b,c⟩:=h.rO g hg
  exact ⟨a,(hx.keep (h.row.lt (by simpa using hg)) b).2,c⟩⟩
theorem LdI.app (h:LdI M P w w1 d t t' C k D A cap L m n v X Bp ps) (hw:w.heap.size≤w1.heap.size) (hwl:∀g,spO D A L.length g→g<w.heap.size) {A':Option Addr} {n' c':Nat} (ha:ApAt w.heap.size w1 w2 v A' n' c' Y):LdI M P w w2 d t t' C k D A cap L m n (.slice A' n' c') Y Bp ps:=by
 have hl:=fun g e=>(h.own.lt g e)
 refine ⟨h.ss.offL ha.off (fun g e=>h.nO g e) (fun g e hg=>by have:=(hl g e).1;have:=hwl g hg;omega),h.nx.offN ha.off (fun g e=>(hl g e).1),h.e1,h.e2,ha.own,ha.some,fun g e=>?_,h.row.off ha.off (fun g e hg=>(h.rO g (by simpa using hg)).2.2 e),fun g hg=>?_⟩
 · rcases ha.at_ with e2|e2
   · rw [e2] at e;exact h.nO g e
   · rw [e2] at e
     injection e with e
     intro ho
     have:=h.ss.pv.lt ho
     omega
 · obtain ⟨a,b,c⟩:=h.rO g hg
   refine ⟨a,b,?_⟩
   rcases ha.at_ with e2|e2
   · rw [e2];exact c
   · rw [e2]
     intro e
     injection e with e
     have:=h.row.lt (k:=g) (by simpa using hg)
     omega
def LdPost (M:Snk K) (P:PSnk K) (w:World) (d:PD) (t:PSt σ) (C:Cu) (k:Nat) (D:SpD) (A:Option Addr) (cap:Nat) (L:List Rg) (m:Int→Option Int) (n:Nat) (at_ j:Int) (e:Ending) (w':World):Prop:=
 ∃ t',SS M P w' d t' C k D A cap L m n∧Nx P w w' d t t'∧t'.nx=t.nx∧t'.cm=t.cm∧
   ((checkF D L at_ j 1≠0∧e=.returned (.tuple #[.slice none 0 0,.int .i64 (checkF D L at_ j 1)]))∨
    (checkF D L at_ j 1=0∧∃A' c',e=.returned (.tuple #[.slice A' j.toNat c',.int .i64 0])∧OwB w.heap.size w' (.slice A' j.toNat c') (loadF (memF D.pg C m) (partsL D.pg at_.toNat j.toNat))∧∀g,(Value.slice A' j.toNat c').ownBlock=some g→¬Own d t' g)∨
    (checkF D L at_ j 1=0∧¬P.room t.s<0∧e=.returned (.tuple #[.slice none 0 0,.int .i64 P.ez])))
end
section
variable {σ:Type} {K:SnkF σ} {M:Snk K} {P:PSnk K} {w w' w1 w2 wr:World} {d:PD} {t t' t1 t2:PSt σ} {C C':Cu} {k k1 k2:Nat} {D:SpD} {A:Option Addr} {cap n:Nat} {L:List Rg} {m:Int→Option Int}
theorem check_ok {at_ j ways:Int} (hD:D.Ok) (h:checkF D L at_ j ways=0):0≤at_∧0≤j∧j≤1048576∧at_+j≤((D.ps*D.pg:Nat):Int)∧D.ps*D.pg≤268435456:=by
 have h4:=hD.b4
 have h8:=hD.b8
 have hle:D.ps*D.pg≤268435456:=Nat.le_trans (Nat.mul_le_mul h8.2 h4.2) (by omega)
 unfold checkF at h
 split at h
 · cases h
 · exact ⟨by omega,by omega,by omega,by omega,hle⟩
theorem loadF_take (mem:Nat→Bytes) (ps:List Pt) {i:Nat} {x:Pt} (h:ps[i]? =some x):loadF mem (ps.take (i+1))=loadF mem (ps.take i) ++ secP (mem x.p) x.o x.n:=by
 unfold loadF
 rw [List.take_add_one,h]
 simp
theorem partsN_sum (z:Nat) (hz:0<z) (mem:Nat→Bytes) (hm:∀i,(mem i).length=z):∀(f a n:Nat),n≤f→(loadF mem (partsN z f a n)).length=n
 | 0,a,n,h=>by
   obtain rfl:n=0:=by omega
   rfl
 | f + 1,a,n,h=>by
   have hmd:=Nat.mod_lt a hz
   unfold partsN
   split
   · rename_i h0;rw [h0];rfl
   · have ih:=partsN_sum z hz mem hm f (a+min n (z-a%z)) (n-min n (z-a%z)) (by omega)
     unfold loadF at ih ⊢
     rw [List.flatMap_cons,List.length_append,ih,secP_len (by rw [hm];simp only;omega)]
     simp only
     omega
theorem load_take_le (z:Nat) (mem:Nat→Bytes) (ps:List Pt) (i:Nat):(loadF mem (ps.take i)).length≤(loadF mem ps).length:=by
 have:loadF mem ps=loadF mem (ps.take i) ++ loadF mem (ps.drop i):=by
  unfold loadF
  rw [←List.flatMap_append,List.take_append_drop]
 rw [this,List.length_append]
 omega
end
set_option maxRecDepth 100000
set_option maxHeartbeats 8000000
section
variable {σ:Type} {K:SnkF σ} {M:Snk K} {P:PSnk K} {w w' w1 w2 wr:World} {d:PD} {t t' t1 t2:PSt σ} {C C':Cu} {k k1 k2:Nat} {D:SpD} {A:Option Addr} {cap n:Nat} {L:List Rg} {m:Int→Option Int}
theorem ld_bad {at_ j:Int} (h:SS M P w d t C k D A cap L m n) (hb:Below w.heap.size w w1) (hz:checkF D L at_ j 1≠0):LdPost M P w d t C k D A cap L m n at_ j (.returned (.tuple #[.slice none 0 0,.int .i64 (checkF D L at_ j 1)])) w1:=
 ⟨t,h.up hb,Nx.refl.up hb,rfl,rfl,.inl ⟨hz,rfl⟩⟩
theorem load_b (hK:K.Good) (hmi:P.Miss) (at_ j:Int) (h:SS M P w d t C (k+(partsL D.pg at_.toNat j.toNat).length) D A cap L m n):
 Calls Tryz.prog 18 #[.pointer (some ⟨D.X,0,none⟩),.int .i64 at_,.int .i64 j] w (LdPost M P w d t C k D A cap L m n at_ j):=by
 have HC:=hJ (check_b h.sp h.ok h.len at_ j 1)
 have H:=hJ h
 have HKG:=hJ hK
 have HMI:=hJ hmi
 by_cases hz:checkF D L at_ j 1=0
 · obtain ⟨c1,c2,c3,c4,c5⟩:=check_ok h.ok hz
   obtain ⟨a,rfl⟩:=Int.eq_ofNat_of_zero_le c1
   obtain ⟨jn,rfl⟩:=Int.eq_ofNat_of_zero_le c2
   simp only [Int.toNat_natCast] at H
   have hD:=h.ok
   have hb4:=hD.b4
   have HZ:=hJ hz
   rw [hz] at HC
   obtain ⟨ps,hps⟩:∃ps,partsL D.pg a jn=ps:=⟨_,rfl⟩
   have hpl:=partsL_len (z:=D.pg) (a:=a) (n:=jn) (by omega)
   have hsum:=partsN_sum D.pg (by omega) (memF D.pg C m) (fun i=>by rw [h.z];exact memF_len h i) jn a jn jN
   have HIN:Hid (∀x,x∈ps→x.o+x.n≤D.pg∧x.p≤300000000):=hJ fun x hx=>by
    rw [←hps] at hx
    obtain ⟨g1,g2,g3,g4,g5⟩:=partsL_in (by omega) hx
    have:=Nat.mul_le_mul_left x.p hb4.1
    exact ⟨g1,by omega⟩
   change (loadF (memF D.pg C m) (partsL D.pg a jn)).length=jn at hsum
   rw [hps] at H hpl hsum
   have HPOST:Hid (∀(t':PSt σ) (A':Option Addr) (c':Nat) (V:World),SS M P V d t' C k D A cap L m n→Nx P w V d t t'→t'.nx=t.nx→t'.cm=t.cm→OwB w.heap.size V (.slice A' jn c') (loadF (memF D.pg C m) ps)→(∀g,(Value.slice A' jn c').ownBlock=some g→¬Own d t' g)→LdPost M P w d t C k D A cap L m n (a:Int) (jn:Int) (.returned (.tuple #[.slice A' jn c',.int .i64 0])) V):=hJ fun t' A' c' V g1 g2 g3 g4 g5 g6=>
    ⟨t',g1,g2,g3,g4,.inr (.inl ⟨HZ.out,A',c',rfl,by simp only [Int.toNat_natCast];rw [hps];exact g5,g6⟩)⟩
   have HPE:Hid (∀(t':PSt σ) (V:World),SS M P V d t' C k D A cap L m n→Nx P w V d t t'→t'.nx=t.nx→t'.cm=t.cm→¬P.room t.s<0→LdPost M P w d t C k D A cap L m n (a:Int) (jn:Int) (.returned (.tuple #[.slice none 0 0,.int .i64 P.ez])) V):=hJ fun t' V g1 g2 g3 g4 g5=>
    ⟨t',g1,g2,g3,g4,.inr (.inr ⟨HZ.out,g5,rfl⟩)⟩
   have hez:(P.ez !=0)=true:=by simp [P.ez0]
   obtain ⟨ez,hze⟩:∃z,P.ez=z:=⟨_,rfl⟩
   rw [hze] at HPE hez
   have HEZ:=hJ hze
   clear hze
   have HPA:Hid (∀V,Below w.heap.size w V→Calls Tryz.prog 62 #[.pointer (some ⟨D.X,0,none⟩),.int .i64 (a:Nat),.int .i64 (jn:Nat)] V fun e w'=>∃A' c',e=.returned (.slice A' ps.length c')∧FrP V w' (.slice A' ps.length c') (ps.map Pt.rg)):=hJ fun V hb=>by
    have:=parts_b (h.sp.up hb) hD (a:=a) (k:=jn) (by omega) (by omega)
    rw [hps] at this
    exact this
   obtain ⟨R,hR⟩:∃R,R=loadF (memF D.pg C m) ps:=⟨_,rfl⟩
   rw [←hR] at hsum HPOST
   have HR:=hJ hR
   clear h hz c1 c2 c4 c5 hps hR HZ hK hmi
   go_enter Tryz.func18,Tryz.ntmps18
   go_upto_region 4 with (go_at_call 61;refine HC.out.mono ?_;rintro e w1 ⟨rfl,hb1⟩;have HB1:=hJ hb1;clear hb1)
   obtain ⟨cur,hmk,hfm⟩:=run_make_cap jn (by omega) w1
   have HFM:=hJ hfm
   clear hfm
   go_upto_region 5 with (fail)
   refine wp_forget (fun V=>FrB w1 V (.slice (some ⟨w1.heap.size,0,none⟩) 0 jn) []) HFM.out ?_
   intro V hfv
   have HFV:=hJ hfv
   obtain ⟨g1,hg1⟩:∃g,w1.heap.size=g:=⟨_,rfl⟩
   rw [hg1] at HFV
   rw [hg1]
   have HG1:=hJ hg1
   have HPA2:=hJ (HPA.out V (HB1.out.trans (hfv.bel.mono HB1.out.size)))
   clear hfv hmk hg1 HFM HPA
   go_wp2_with (go_at_call 62;refine HPA2.out.mono ?_;rintro e w3 ⟨Bp,cp,rfl,hfp⟩;have HFP:=hJ hfp;clear hfp)
   have HI0:Hid (LdI M P w w3 d t t C (k+ps.length) D A cap L m n (.slice (some ⟨g1,0,none⟩) 0 jn) [] Bp ps):=by
    have hbV:=HB1.out.trans (HFV.out.bel.mono HB1.out.size)
    have hb3:=hbV.trans (HFP.out.2.mono hbV.size)
    have hl1:=(HFV.out.own.lt g1 rfl)
    have hg:=HG1.out
    have hbs:=HB1.out.size
    refine hJ ⟨H.out.up hb3,Nx.refl.up hb3,rfl,rfl,(HFV.out.own.up HFP.out.2).mono HB1.out.size,(fun e=>by cases e),fun g e ho=>?_,HFP.out.1.rg,fun g hk=>?_⟩
    · have eg:g1=g:=by simpa [Value.ownBlock] using e
      have:=H.out.pv.lt ho
      omega
    · have hk2:=(HFP.out.1.lt (HFP.out.1.own hk)).1
      exact ⟨by omega,fun ho=>by have:=H.out.pv.lt ho;omega,fun e=>(show g1≠g by omega) (by simpa [Value.ownBlock] using e)⟩
   have HWL:Hid (∀g,spO D A L.length g→g<w.heap.size):=hJ fun g hg=>H.out.sp.lt hg
   clear HFV HFP HPA2 HG1 HB1 HC
   go_loopw [9,30,11,12,13,14,15] (fun v i b11 v12 v13 v14 v15 wr=>∃(i':Nat) (t':PSt σ) (A':Option Addr) (n' c':Nat),i'≤ps.length∧i=.int .i64 (i':Nat)∧v=.slice A' n' c'∧LdI M P w wr d t t' C (k+(ps.length-i')) D A cap L m n (.slice A' n' c') (loadF (memF D.pg C m) (ps.take i')) Bp ps) (fun _ i _ _ _ _ _ _=>ps.length-(intOf i).toNat)
   case atStart=>exact ⟨0,t,some ⟨g1,0,none⟩,0,jn,by omega,rfl,rfl,HI0.out⟩
   case round=>
    obtain ⟨i',t1,A1,n1,c1,hi,rfl,rfl,hld⟩:=hrel
    have HLD:=hJ hld
    by_cases hin:i'<ps.length
    · obtain ⟨x,hx⟩:∃x,ps[i']? =some x:=⟨_,jE hin⟩
      obtain ⟨gr,orr,hB,hgr,hcr⟩:=hld.row.at_ (by simp;omega)
      obtain ⟨q0,q1,q2⟩:=hcr i' x.rg (by rw [List.getElem?_map,hx];rfl)
      have HX:=hJ (HIN.out x (jG hx))
      have HTK:=hJ (loadF_take (memF D.pg C m) ps hx)
      have htl:=load_take_le D.pg (memF D.pg C m) ps i'
      rw [←HR.out] at htl
      have hn1:=hld.own.part.1
      have hiI:(i':Int)<(ps.length:Int):=by omega
      obtain ⟨xp,xo,xn⟩:=x
      simp only [Pt.rg] at q0 q1 q2
      rw [hB]
      have HB:=hJ hB
      have hxl:xo+xn≤D.pg:=HX.out.1
      clear hld hcr hx hB hgr
      go_upto_region 8 with (fail)
      refine wp_forget (fun V=>LdI M P w V d t t1 C (k+(ps.length-i')) D A cap L m n (.slice A1 n1 c1) (loadF (memF D.pg C m) (ps.take i')) Bp ps∧Rg3 V wr.heap.size (xp:Nat) (xo:Nat) (xn:Nat)∧wr.heap.size<V.heap.size∧¬Own d t1 wr.heap.size∧(Value.slice A1 n1 c1).ownBlock≠some wr.heap.size) ⟨HLD.out.up (jB.alloc jN _),Rg3.new wr (xp:Nat) (xo:Nat) (xn:Nat) 120,by simp,fun e=>by have:=HLD.out.ss.pv.lt e;omega,fun e=>by have:=(HLD.out.own.lt _ e).2;omega⟩ ?_
      rintro V ⟨hldv,hr3,hb8,hno,hne⟩
      obtain ⟨b8,hb8e⟩:∃g,wr.heap.size=g:=⟨_,rfl⟩
      rw [hb8e] at hr3 hb8 hno hne
      rw [hb8e]
      have HLV:=hJ hldv
      have HR3:=hJ hr3
      have HNO:=hJ (And.intro hno hne)
      have s11:=hldv.ss.sp.c11
      have s9:=hldv.ss.sp.c9
      have y0:=hr3.c0
      have y1:=hr3.c1
      have y2:=hr3.c2
      have lX:=hldv.ss.sp.ltX
      have hlk:=fun nq=>(hldv.up (below_drewN (Below.refl _ V) nq)).ss.look HX.out.2 true
      have hmd:memF D.pg C m xp=match m (xp:Nat) with
       |none=>zeros D.pg
       | some id=>match C id with
         |none=>zeros D.pg
         |some p=>p.1:=rfl
      simp only at hlk
      cases hm:m (xp:Nat) with
      | none=>
        rw [hm] at hlk hmd
        simp only [if_true] at hlk hmd
        clear hldv hr3 hno hne hm
        go_upto_region 8 with (fail)
        go_quiet (fail)
        go_upto_region 10 with (fail)
        refine wp_forget (fun W=>LdI M P w W d t t1 C (k+(ps.length-i')) D A cap L m n (.slice A1 n1 c1) (loadF (memF D.pg C m) (ps.take i')) Bp ps∧W.cell? ⟨b8,2,none⟩=some (.int .i64 (xn:Nat))) ⟨HLV.out.up (below_drewN (Below.refl _ V) nq),y2⟩ ?_
        rintro W ⟨hlw,z2⟩
        have lz:=lt_of_cell z2
        obtain ⟨A2,c2,w2,hr2,hap⟩:=app_zero hlw.own hlw.ne hlw.nx.off.size xn (by omega)
        have hsz:=hlw.nx.off.size
        rw [hn1] at hr2 hap
        have HN:=hJ (hlw.app hsz HWL.out hap)
        clear hlw hap s11 s9 y0 y1 y2 lX hlk hb8 hsz
        go_wp2_with (at_builtin;go_must (refine wpList_append_run2 rfl (.tmp 46) (.tmp 48) 24 3 rfl _ _ rfl rfl hr2 ?_))
        go_roundw
        case rel=>
         have hl:=HN.out
         rw [HB.out] at hl
         refine ⟨i'+1,t1,A2,n1+xn,c2,by omega,by go_num,rfl,?_⟩
         rw [HTK.out,show secP (memF D.pg C m xp) xo xn=zeros xn by rw [hmd];exact secP_zeros hxl]
         exact ⟨hl.ss.less HKG.out (by omega),hl.nx,hl.e1,hl.e2,hl.own,hl.ne,hl.nO,hl.row,hl.rO⟩
        case measure=>simp [intOf];omega
      | some id=>
        rw [hm] at hlk hmd
        simp only [if_true] at hlk hmd
        obtain ⟨⟨pb,pu⟩,hC⟩:=hldv.ss.has _ id hm
        rw [hC] at hmd
        simp only at hmd
        clear hr3 hno hne
        go_upto_region 8 with (fail)
        go_quiet (fail)
        go_upto_region 11 with (fail)
        refine wp_forget (fun W=>LdI M P w W d t t1 C (k+(ps.length-i')) D A cap L m n (.slice A1 n1 c1) (loadF (memF D.pg C m) (ps.take i')) Bp ps∧W.cell? ⟨b8,1,none⟩=some (.int .i64 (xo:Nat))∧W.cell? ⟨b8,2,none⟩=some (.int .i64 (xn:Nat))) ⟨HLV.out.up (below_drewN (Below.refl _ V) nq),y1,y2⟩ ?_
        rintro W ⟨hlw,z1,z2⟩
        have lz:=lt_of_cell z2
        have v9:=hlw.ss.sp.c9
        have lX2:=hlw.ss.sp.ltX
        have hz:=hlw.ss.z
        have hq:=hlw.ss.q
        rw [hq] at v9
        have HLW:=hJ hlw
        have HRD:Hid (∀g:Up W,Calls Tryz.prog 27 #[.pointer (some ⟨d.Q,0,none⟩),.int .i64 id,.int .i64 (xo:Nat),.int .i64 (xn:Nat)] g.world fun e w'=>∃t',Pv M P w' d t' C (k+(ps.length-i')-1)∧Nx P g.world w' d t1 t'∧t'.nx=t1.nx∧t'.cm=t1.cm∧
         ((∃A c,e=.returned (.tuple #[.slice A xn c,.int .i64 0])∧SlB w' (.slice A xn c) (secP pb xo xn)∧VIn (fun k=>¬Own d t' k∧g.world.heap.size≤k) (.slice A xn c))∨(e=.returned (.tuple #[.slice none 0 0,.int .i64 ez])∧¬P.room t1.s<0))):=hJ fun g=>by
         have:=pv_read HKG.out HMI.out (k:=k+(ps.length-i')-1) (by
          have:=(HLW.out.up g.h).ss.pv
          rw [show k+(ps.length-i')=k+(ps.length-i')-1+1 by omega] at this
          exact this) hC (off:=xo) (n:=xn) (by omega)
         rw [HEZ.out] at this
         exact this
        clear hldv hlw s11 s9 y0 y1 y2 lX hlk hb8 hm hC
        go_upto_region 11 with (fail)
        refine wp_region_up_tail 9 (by kernel_rfl) (by kernel_rfl) (by kernel_rfl) ?_
        simp only [List.take_succ_cons,List.take_zero,List.drop_succ_cons,List.drop_zero]
        repeat (go_big_quiet_step (fail))
        refine wpQuiet_nil ?_
        rintro _ ⟨g,rfl⟩
        go_wp2_with fail
        refine (HRD.out g).mono ?_
        rintro e W3 ⟨t3,hv3,hx3,e31,e32,⟨A3,c3',rfl,hS3,hV3⟩|⟨rfl,hnr⟩⟩
        rotate_left
        · have hl3:=hJ ((HLW.out.up g.h).pg hv3 hx3 e31 e32)
          have HNR:Hid (¬P.room t.s<0):=hJ (fun e=>by have:=HLW.out.nx.rm e;omega)
          clear hv3 hx3 e31 e32 hnr v9 z1 z2 lz lX2 HRD HLW
          go_wp2
          go_ret2
          exact HPE.out t3 _ (hl3.out.ss.less HKG.out (by omega)) hl3.out.nx hl3.out.e1 hl3.out.e2 HNR.out
        have hl3:=(HLW.out.up g.h).pg hv3 hx3 e31 e32
        have hsb:SBy W3 A3 xn (secP pb xo xn):=by
         obtain ⟨A4,n4,c4,e4,_,h4⟩:=hS3
         cases e4
         exact h4
        have hsz:=hl3.nx.off.size
        obtain ⟨A2,c2,w2,hr2,hap⟩:=app_bytes (c:=c3') hl3.own hl3.ne hsz hsb (by omega)
        rw [hn1] at hr2 hap
        have HN:=hJ (hl3.app hsz HWL.out hap)
        clear hv3 hx3 e31 e32 hS3 hV3 hl3 hsb hsz hap v9 z1 z2 lz lX2 HRD HLW
        go_wp2_with (at_builtin;go_must (refine wpList_append_run2 rfl (.tmp 66) (.tmp 67) 24 24 rfl _ _ rfl rfl hr2 ?_))
        go_roundw
        case rel=>
         have hl:=HN.out
         rw [HB.out] at hl
         refine ⟨i'+1,t3,A2,n1+xn,c2,by omega,by go_num,rfl,?_⟩
         rw [HTK.out,hmd]
         exact ⟨hl.ss.less HKG.out (by omega),hl.nx,hl.e1,hl.e2,hl.own,hl.ne,hl.nO,hl.row,hl.rO⟩
        case measure=>simp [intOf];omega
    · obtain rfl:i'=ps.length:=by omega
      have hii:¬(ps.length:Int)<(ps.length:Int):=by omega
      have hn1:=hld.own.part.1
      rw [List.take_length] at hn1
      obtain rfl:n1=jn:=by rw [←hn1,←HR.out];exact hsum
      have hown:=hld.own
      rw [List.take_length,←HR.out] at hown
      have HOWN:=hJ hown
      clear hin hld hown hn1
      go_wp2
      go_ret2
      have hl:=HLD.out
      exact HPOST.out t1 A1 c1 _ (hl.ss.less HKG.out (by omega)) hl.nx hl.e1 hl.e2 HOWN.out hl.nO
 · have HZ:=hJ (fun w1 hb=>ld_bad (w1:=w1) h hb hz)
   have HPOST:Hid (∀w1,Below w.heap.size w w1→LdPost M P w d t C k D A cap L m n at_ j (.returned (.tuple #[.slice none 0 0,.int .i64 (checkF D L at_ j 1)])) w1):=hJ fun w1 hb=>by
    obtain ⟨t',g1,g2⟩:=HZ.out w1 hb
    exact ⟨t',g1.less hK (Nat.le_add_right _ _),g2⟩
   obtain ⟨z,hzz⟩:∃z,checkF D L at_ j 1=z:=⟨_,rfl⟩
   rw [hzz] at HC hz HPOST
   have hb0:(z !=0)=true:=by simp [hz]
   clear h hz hzz HZ hK hmi
   go_enter Tryz.func18,Tryz.ntmps18
   go_wp2_with (go_at_call 61;refine HC.out.mono ?_;rintro e w1 ⟨rfl,hb1⟩;have HB1:=hJ hb1;clear hb1)
   go_ret2
   exact HPOST.out _ HB1.out
end
set_option maxRecDepth 100000
set_option maxHeartbeats 8000000
def skipB (C:Cu) (m:Int→Option Int) (x:Pt) (b:Bytes):Bool:=match m (x.p:Nat) with
 |none=>false
 | some id=>match C id with
   |none=>false
   |some p=>decide (p.2≤1) && decide (secP p.1 x.o x.n=b)
section
variable {σ:Type} {K:SnkF σ} {M:Snk K} {P:PSnk K} {w w' w1 w2 wr:World} {d:PD} {t t' t1 t2:PSt σ} {C C':Cu} {k k1 k2:Nat} {D:SpD} {A:Option Addr} {cap n:Nat} {L:List Rg} {m:Int→Option Int}
def FsPost (M:Snk K) (P:PSnk K) (w:World) (d:PD) (t:PSt σ) (C:Cu) (k:Nat) (D:SpD) (A:Option Addr) (cap:Nat) (L:List Rg) (m:Int→Option Int) (n:Nat) (x:Pt) (b:Bytes) (e:Ending) (w':World):Prop:=
 ∃ t',Nx P w w' d t t'∧
   ((skipB C m x b=true∧e=.returned (.tuple #[.int .i64 0,.int .i64 0])∧SS M P w' d t' C k D A cap L m n∧t'.nx=t.nx∧t'.cm=t.cm)∨
    (skipB C m x b=false∧e=.returned (.tuple #[.int .i64 (t.nx:Nat),.int .i64 0])∧SS M P w' d t' (updU C t.nx (some (setB (memF D.pg C m x.p) x.o b,0))) k D A cap L m n∧t'.nx=t.nx+1∧t'.cm=t.cm+1)∨
    (skipB C m x b=false∧¬P.room t.s<0∧e=.returned (.tuple #[.int .i64 0,.int .i64 P.ez])∧SS M P w' d t' C k D A cap L m n∧t'.nx=t.nx+1∧t'.cm=t.cm))
structure FsI (M:Snk K) (P:PSnk K) (w wr:World) (d:PD) (t t1:PSt σ) (C:Cu) (k:Nat) (D:SpD) (A:Option Addr) (cap:Nat) (L:List Rg) (m:Int→Option Int) (n:Nat) (b4 B c:Nat) (x:Pt) (cur:Bytes) (bA:Option Addr) (bc:Nat) (b:Bytes):Prop where
 ss:SS M P wr d t1 C k D A cap L m n
 nx:Nx P w wr d t t1
 e1:t1.nx=t.nx
 e2:t1.cm=t.cm
 by_:ByAt wr D.pg B c cur
 hB:w.heap.size≤B∧¬Own d t1 B
 box:Rg3 wr b4 (x.p:Nat) (x.o:Nat) (x.n:Nat)
 h4:w.heap.size≤b4∧¬Own d t1 b4∧b4≠B
 sb:SBy wr bA x.n b
 vb:VIn (fun g=>g<w.heap.size∧¬Own d t1 g) (.slice bA x.n bc)
 np:1≤x.n∧x.o+x.n≤D.pg
variable {b4 B c bc:Nat} {x:Pt} {cur b:Bytes} {bA:Option Addr}
theorem FsI.copy (h:FsI M P w w1 d t t1 C k D A cap L m n b4 B c x cur bA bc b) (hwl:∀g,spO D A L.length g→g<w.heap.size) (hby:ByAt w2 D.pg B c (setB cur x.o b)) (ho:Off (· =B) w1 w2):FsI M P w w2 d t t1 C k D A cap L m n b4 B c x (setB cur x.o b) bA bc b:=by
 refine ⟨h.ss.offL ho (fun g e=>by rw [e];exact h.hB.2) (fun g e hg=>by have:=hwl g hg;have:=h.hB.1;omega),h.nx.offN ho (fun g e=>by rw [e];exact h.hB.1),h.e1,h.e2,hby,h.hB,h.box.off ho h.h4.2.2,h.h4,?_,h.vb,h.np⟩
 refine h.sb.off ho fun g o e hg=>?_
 have:=(h.vb g o x.n bc (by rw [e]) h.np.1).1
 have:=h.hB.1
 omega
theorem fs_done (hK:K.Good) (hmi:P.Miss) (h:FsI M P w w1 d t t1 C (k+2) D A cap L m n b4 B c x cur bA bc b) (hcur:cur.length=D.pg) (hsk:skipB C m x b=false) (hc:cur=setB (memF D.pg C m x.p) x.o b) {ez:Int} (hez:P.ez=ez):
 Calls Tryz.prog 105 #[.pointer (some ⟨d.Q,0,none⟩)] w1 fun e w2=>e=.returned (.int .i64 (t.nx:Nat))∧SpAt w2 D A cap L m n∧
  Calls Tryz.prog 106 #[.pointer (some ⟨d.Q,0,none⟩),.int .i64 (t.nx:Nat),.int .i64 0,.slice (some ⟨B,0,none⟩) D.pg c] w2 fun e w3=>(e=.returned (.int .i64 0)∧FsPost M P w d t C k D A cap L m n x b (.returned (.tuple #[.int .i64 (t.nx:Nat),.int .i64 0])) w3)∨
   (e=.returned (.int .i64 ez)∧SpAt w3 D A cap L m n∧Calls Tryz.prog 64 #[.pointer (some ⟨d.Q,0,none⟩),.int .i64 (t.nx:Nat)] w3 fun e w4=>e=.returned (.int .i64 0)∧FsPost M P w d t C k D A cap L m n x b (.returned (.tuple #[.int .i64 0,.int .i64 ez])) w4):=by
 subst hez
 refine (pv_make hK (k:=k+1) h.ss.pv).mono ?_
 rintro e w2 ⟨rfl,t2,hv2,hx2,e21,e22⟩
 rw [h.e1] at hv2 e21 ⊢
 have hnone:C (t.nx:Nat)=none:=by
  cases hC:C (t.nx:Nat) with
  |none=>rfl
  | some p=>
    have:=(h.ss.pv.id1 _ p hC).2
    rw [h.e1] at this
    omega
 have hhas:∀(y:Bytes×Int) i id,m i=some id→∃p,updU C t.nx (some y) id=some p:=fun y i id hi=>by
  obtain ⟨p,hp⟩:=h.ss.has i id hi
  exact ⟨p,by rw [updU_ne _ _ (fun e=>by rw [e,hnone] at hp;cases hp)];exact hp⟩
 have hs2:=h.ss.pg hv2 hx2 (hhas _)
 have hkB:=hx2.keep (h.by_.lt h.ss.ok.b4.1) h.hB.2
 have hby2:=h.by_.off h.ss.ok.b4.1 hx2.off h.hB.2
 refine ⟨rfl,hs2.sp,?_⟩
 have hz:=h.ss.z
 refine (pv_write hK hmi (k:=k) (off:=0) hv2 (updU_same _ _ _) (hby2.sby) (by rw [hz];omega) (fun g o n' c' e _=>by cases e;exact hkB.2)).mono ?_
 rintro e w3 ⟨t3,hx3,e31,e32,⟨rfl,hv3⟩|⟨rfl,hnr,hv3⟩⟩
 · refine .inl ⟨rfl,t3,(h.nx.trans hx2).trans hx3,.inr (.inl ⟨hsk,rfl,?_,by omega,by rw [e32,e22,h.e2]⟩)⟩
   have e5:updU (updU C t.nx (some (zeros d.z,0))) t.nx (some (setB (zeros d.z) 0 cur,0))=updU C t.nx (some (setB (memF D.pg C m x.p) x.o b,0)):=by
    funext i
    unfold updU
    split
    · rw [←hc]
      congr 2
      unfold setB
      rw [List.drop_eq_nil_of_le (by rw [zeros_length];omega)]
      simp
    · rfl
   rw [e5] at hv3
   exact hs2.pg hv3 hx3 (hhas _)
 · have hs3:=hs2.pg hv3 hx3 (hhas _)
   refine .inr ⟨rfl,hs3.sp,?_⟩
   refine (pv_drop hv3 (updU_same _ _ _)).mono ?_
   rintro e w4 ⟨rfl,t4,hv4,hx4,e41,e42⟩
   have e5:updU (updU C t.nx (some (zeros d.z,0))) t.nx none=C:=by
    funext i
    unfold updU
    split
    · rename_i e;rw [e,hnone]
    · rfl
   rw [e5] at hv4
   exact ⟨rfl,t4,((h.nx.trans hx2).trans hx3).trans hx4,.inr (.inr ⟨hsk,fun e=>hnr (hx2.rm (h.nx.rm e)),rfl,hs3.pg hv4 hx4 h.ss.has,by omega,by rw [e42,e32,e22,h.e2];omega⟩)⟩
end
end Go.Proofs.YtlhfjaagkgengaaGreat
