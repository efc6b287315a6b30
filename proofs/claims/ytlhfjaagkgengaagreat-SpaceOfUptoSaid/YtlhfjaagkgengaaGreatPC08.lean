/- A pager in memory. A pager: what a page holds; peek. A pager: what holds of it all the while; what may become of it. -/
import Derived.Test.YtlhfjaagkgengaaGreatPC07
namespace Go.Proofs.YtlhfjaagkgengaaGreat
set_option maxRecDepth 100000
set_option maxHeartbeats 4000000
open Go.RowKit Go.Maps
set_option linter.unusedVariables false
set_option linter.unusedSimpArgs false
def intOfV:Value→Option Int
 | .int .i64 k=>some k
 |_=>none
theorem intOfV_inv {v:Value} {k:Int} (h:intOfV v=some k):v=.int .i64 k:=by
 unfold intOfV at h
 split at h
 · cases h;rfl
 · cases h
theorem intKeyed:Keyed Tryz.prog 3:=int_keyed Tryz.underlying3
theorem int_wf {k:Int} (h: -9223372036854775808≤k∧k≤9223372036854775807):(Lit.int .i64 k).wf=true:=by simpa [Lit.wf,IntKind.min,IntKind.max,IntKind.signed,IntKind.bits] using h
structure Pg where
 X:Nat
 bb:Option (Nat×Nat×Bytes)
 at_:Int×Int
 put:Bool
 zero:Bool
 uses:Int
def Pg.bv (x:Pg):Value:=match x.bb with
 |none=>.slice none 0 0
 |some (B,c,L)=>.slice (some ⟨B,0,none⟩) L.length c
def Pg.blk (x:Pg) (k:Nat):Prop:=k=x.X∨∃c L,x.bb=some (k,c,L)
theorem Pg.bv_slice (x:Pg):∃A n c,x.bv=.slice A n c:=by
 unfold Pg.bv
 split<;>exact ⟨_,_,_,rfl⟩
structure ByAt (w:World) (z B c:Nat) (L:Bytes):Prop where
 len:L.length=z
 cap:z≤c
 sby:SBy w (some ⟨B,0,none⟩) z L
 fz:∀k,w.frozen? ⟨B,k,none⟩=false
 row:∃cur t,w.heap[B]? =some (.cells cur t (0,0))∧z≤cur.size
structure PgAt (w:World) (z:Nat) (x:Pg):Prop where
 c0:w.cell? ⟨x.X,0,none⟩=some x.bv
 c1:w.cell? ⟨x.X,1,none⟩=some (.int .i64 x.at_.1)
 c2:w.cell? ⟨x.X,2,none⟩=some (.int .i64 x.at_.2)
 c3:w.cell? ⟨x.X,3,none⟩=some (.bool x.put)
 c4:w.cell? ⟨x.X,4,none⟩=some (.bool x.zero)
 c5:w.cell? ⟨x.X,5,none⟩=some (.int .i64 x.uses)
 fz:∀k,w.frozen? ⟨x.X,k,none⟩=false
 bs:∀B c L,x.bb=some (B,c,L)→ByAt w z B c L
structure PSt (σ:Type) where
 F:Nat→Fr
 h:Nat
 g:Int→Option Nat
 c:Nat
 pm:Int→Option Pg
 cm:Nat
 nx:Nat
 hole:Option Int
 O:Nat→Prop
 s:σ
structure PD where
 Q:Nat
 Pb:Nat
 B:Nat
 Mp:Nat
 Mm:Nat
 n:Nat
 z:Nat
def pgF (m:Int→Option Pg) (v:Value):Option Value:=(intOfV v).bind fun k=>(m k).map fun x=>.pointer (some ⟨x.X,0,none⟩)
def visP (pm:Int→Option Pg) (hole:Option Int):Int→Option Pg:=fun k=>if some k=hole then none else pm k
def updP (pm:Int→Option Pg) (id:Int) (x:Option Pg):Int→Option Pg:=fun k=>if k=id then x else pm k
def ownP (d:PD) (pm:Int→Option Pg) (k:Nat):Prop:=k=d.Q∨k=d.Pb∨k=d.B∨k=d.Mp∨k=d.Mm∨∃i x,pm i=some x∧x.blk k
structure PgrAt {σ:Type} {K:SnkF σ} (M:Snk K) (w:World) (d:PD) (t:PSt σ):Prop where
 q0:w.cell? ⟨d.Q,0,none⟩=some (.pointer (some ⟨d.Pb,0,none⟩))
 q1:w.cell? ⟨d.Q,1,none⟩=some (.int .i64 (d.z:Nat))
 q2:w.cell? ⟨d.Q,2,none⟩=some (.int .i64 (d.n:Nat))
 q3:w.cell? ⟨d.Q,3,none⟩=some (.iface M.T (.pointer M.p))
 q4:w.cell? ⟨d.Q,4,none⟩=some (.map (some d.Mm))
 q5:w.cell? ⟨d.Q,5,none⟩=some (.int .i64 (t.nx:Nat))
 qz:∀k,w.frozen? ⟨d.Q,k,none⟩=false
 pool:PoolAt w d.Pb d.B d.Mp d.n t.F t.h t.g t.c
 mp:MapIs Tryz.prog 3 w d.Mm (pgF (visP t.pm t.hole)) t.cm
 pg:∀i x,t.pm i=some x→PgAt w d.z x
 at_:M.At w t.O t.s
 nO:∀k,ownP d t.pm k→¬t.O k
 inj:∀i j x y k,t.pm i=some x→t.pm j=some y→x.blk k→y.blk k→i=j
 neM:d.Mp≠d.Mm
 zs:16≤d.z∧d.z≤4096
theorem ByAt.cell {w:World} {z B c:Nat} {L:Bytes} (h:ByAt w z B c L) (hz:16≤z):∃v:Nat,w.cell? ⟨B,0,none⟩=some (.int .u8 (v:Nat)):=by
 obtain ⟨b,o,e,_,hc⟩:=h.sby.2 (by omega)
 cases e
 exact ⟨_,hc 0 (by omega)⟩
theorem ByAt.lt {w:World} {z B c:Nat} {L:Bytes} (h:ByAt w z B c L) (hz:16≤z):B<w.heap.size:=by
 obtain ⟨v,hv⟩:=h.cell hz
 exact lt_of_cell hv
theorem ByAt.off {S:Nat→Prop} {w w':World} {z B c:Nat} {L:Bytes} (h:ByAt w z B c L) (hz:16≤z) (ho:Off S w w') (hB:¬S B):ByAt w' z B c L:=
 ⟨h.len,h.cap,h.sby.off ho (fun k o e=>by cases e;exact hB),fun k=>(ho.frozen (p:=⟨B,k,none⟩) (h.lt hz) hB).trans (h.fz k),by
  obtain ⟨cur,t,e,hs⟩:=h.row
  exact ⟨cur,t,(ho.block B (h.lt hz) hB).trans e,hs⟩⟩
theorem PgAt.lt {w:World} {z:Nat} {x:Pg} (h:PgAt w z x):x.X<w.heap.size:=lt_of_cell h.c0
theorem PgAt.off {S:Nat→Prop} {w w':World} {z:Nat} {x:Pg} (h:PgAt w z x) (hz:16≤z) (ho:Off S w w') (hS:∀k,x.blk k→¬S k):PgAt w' z x:=by
 have hX:=hS x.X (.inl rfl)
 have hl:=h.lt
 exact ⟨(ho.cell (p:=⟨x.X,0,none⟩) hl hX).trans h.c0,(ho.cell (p:=⟨x.X,1,none⟩) hl hX).trans h.c1,(ho.cell (p:=⟨x.X,2,none⟩) hl hX).trans h.c2,(ho.cell (p:=⟨x.X,3,none⟩) hl hX).trans h.c3,(ho.cell (p:=⟨x.X,4,none⟩) hl hX).trans h.c4,(ho.cell (p:=⟨x.X,5,none⟩) hl hX).trans h.c5,
  fun k=>(ho.frozen (p:=⟨x.X,k,none⟩) hl hX).trans (h.fz k),fun B c L e=>(h.bs B c L e).off hz ho (hS B (.inr ⟨c,L,e⟩))⟩
theorem PgAt.blk_lt {w:World} {z:Nat} {x:Pg} (h:PgAt w z x) (hz:16≤z) {k:Nat} (hk:x.blk k):k<w.heap.size:=by
 rcases hk with rfl|⟨c,L,e⟩
 · exact h.lt
 · exact (h.bs k c L e).lt hz
theorem PgAt.self {w:World} {z:Nat} {x:Pg} (h:PgAt w z x) (hz:16≤z) {B c:Nat} {L:Bytes} (e:x.bb=some (B,c,L)):B≠x.X:=fun e2=>by
 obtain ⟨v,hv⟩:=(h.bs B c L e).cell hz
 have:=h.c0
 rw [←e2,hv] at this
 obtain ⟨A,n,c',hs⟩:=x.bv_slice
 rw [hs] at this
 cases this
theorem pgF_at (m:Int→Option Pg) (k:Int):pgF m (.int .i64 k)=(m k).map fun x=>.pointer (some ⟨x.X,0,none⟩):=rfl
theorem pgF_congr {m m':Int→Option Pg} (h:∀k,(m k).map Pg.X=(m' k).map Pg.X):pgF m=pgF m':=by
 funext v
 unfold pgF
 cases intOfV v with
 |none=>rfl
 | some k=>
   have:=h k
   simp only [Option.bind_some]
   cases h1:m k<;>cases h2:m' k<;>simp_all
theorem pgF_put (m:Int→Option Pg) (k:Int) (x:Pg):putK (pgF m) (.int .i64 k) (.pointer (some ⟨x.X,0,none⟩))=pgF (updP m k (some x)):=by
 funext v
 unfold putK
 split
 · rename_i h;subst h;simp [pgF,intOfV,updP]
 · rename_i h
   unfold pgF
   cases hn:intOfV v with
   |none=>rfl
   | some j=>
     have hjk:j≠k:=fun e=>h (by rw [intOfV_inv hn,e])
     simp [updP,hjk]
theorem pgF_del (m:Int→Option Pg) (k:Int):delK (pgF m) (.int .i64 k)=pgF (updP m k none):=by
 funext v
 unfold delK
 split
 · rename_i h;subst h;simp [pgF,intOfV,updP]
 · rename_i h
   unfold pgF
   cases hn:intOfV v with
   |none=>rfl
   | some j=>
     have hjk:j≠k:=fun e=>h (by rw [intOfV_inv hn,e])
     simp [updP,hjk]
section
variable {σ:Type} {K:SnkF σ} {M:Snk K} {w w':World} {d:PD} {t:PSt σ}
theorem PgrAt.ltQ (h:PgrAt M w d t):d.Q<w.heap.size:=lt_of_cell h.q0
theorem PgrAt.own_lt (h:PgrAt M w d t) {k:Nat} (hk:ownP d t.pm k):k<w.heap.size:=by
 rcases hk with rfl|rfl|rfl|rfl|rfl|⟨i,x,hx,hb⟩
 · exact h.ltQ
 · exact h.pool.ltP
 · exact h.pool.ltB
 · exact h.pool.ltM
 · exact h.mp.lt
 · exact (h.pg i x hx).blk_lt h.zs.1 hb
theorem PgrAt.neQ (h:PgrAt M w d t):d.Q≠d.Pb∧d.Q≠d.B∧d.Q≠d.Mp∧d.Q≠d.Mm∧d.Pb≠d.Mm∧d.B≠d.Mm:=by
 refine ⟨fun e=>?_,fun e=>?_,fun e=>?_,fun e=>?_,fun e=>?_,fun e=>?_⟩
 · have:=h.q0;rw [e,h.pool.l0] at this;cases this
 · have:=h.q0;have h2:=(h.pool.fr 0 h.pool.pos).c0;rw [Nat.zero_mul] at h2;rw [e,h2] at this;cases this
 · have:=h.q0;rw [e,h.pool.mp.no_cell] at this;cases this
 · have:=h.q0;rw [e,h.mp.no_cell] at this;cases this
 · have:=h.pool.l0;rw [e,h.mp.no_cell] at this;cases this
 · have h2:=(h.pool.fr 0 h.pool.pos).c0;rw [e,h.mp.no_cell] at h2;cases h2
theorem PgrAt.neX (h:PgrAt M w d t) {i:Int} {x:Pg} (hx:t.pm i=some x) {k:Nat} (hk:x.blk k):k≠d.Q∧k≠d.Pb∧k≠d.B∧k≠d.Mp∧k≠d.Mm:=by
 have hp:=h.pg i x hx
 obtain ⟨A,n,c',hs⟩:=x.bv_slice
 rcases hk with rfl|⟨c,L,e⟩
 · have h0:=hp.c0
   have h1:=hp.c1
   rw [hs] at h0
   refine ⟨fun e=>?_,fun e=>?_,fun e=>?_,fun e=>?_,fun e=>?_⟩
   · rw [e,h.q0] at h0;cases h0
   · rw [e,h.pool.l1] at h1;cases h1
   · have h2:=(h.pool.fr 0 h.pool.pos).c0;rw [Nat.zero_mul] at h2;rw [e,h2] at h0;cases h0
   · rw [e,h.pool.mp.no_cell] at h0;cases h0
   · rw [e,h.mp.no_cell] at h0;cases h0
 · obtain ⟨v,hv⟩:=(hp.bs k c L e).cell h.zs.1
   refine ⟨fun e=>?_,fun e=>?_,fun e=>?_,fun e=>?_,fun e=>?_⟩
   · rw [e,h.q0] at hv;cases hv
   · rw [e,h.pool.l0] at hv;cases hv
   · have h2:=(h.pool.fr 0 h.pool.pos).c0;rw [Nat.zero_mul] at h2;rw [e,h2] at hv;cases hv
   · rw [e,h.pool.mp.no_cell] at hv;cases hv
   · rw [e,h.mp.no_cell] at hv;cases hv
theorem PgrAt.off {S O':Nat→Prop} {s':σ} (h:PgrAt M w d t) (ho:Off S w w') (hS:∀k,ownP d t.pm k→¬S k) (ha:M.At w' O' s') (hO:∀k,O' k→t.O k∨w.heap.size≤k):PgrAt M w' d {t with O:=O',s:=s'}:=by
 have hQ:=hS d.Q (.inl rfl)
 have hl:=h.ltQ
 refine ⟨(ho.cell (p:=⟨d.Q,0,none⟩) hl hQ).trans h.q0,(ho.cell (p:=⟨d.Q,1,none⟩) hl hQ).trans h.q1,(ho.cell (p:=⟨d.Q,2,none⟩) hl hQ).trans h.q2,(ho.cell (p:=⟨d.Q,3,none⟩) hl hQ).trans h.q3,(ho.cell (p:=⟨d.Q,4,none⟩) hl hQ).trans h.q4,(ho.cell (p:=⟨d.Q,5,none⟩) hl hQ).trans h.q5,
  fun k=>(ho.frozen (p:=⟨d.Q,k,none⟩) hl hQ).trans (h.qz k),h.pool.off ho (hS _ (.inr (.inl rfl))) (hS _ (.inr (.inr (.inl rfl)))) (hS _ (.inr (.inr (.inr (.inl rfl))))),h.mp.off ho (hS _ (.inr (.inr (.inr (.inr (.inl rfl)))))),
  fun i x hx=>(h.pg i x hx).off h.zs.1 ho (fun k hk=>hS k (.inr (.inr (.inr (.inr (.inr ⟨i,x,hx,hk⟩)))))),ha,fun k hk e=>?_,h.inj,h.neM,h.zs⟩
 rcases hO k e with e|e
 · exact h.nO k hk e
 · have:=h.own_lt hk;omega
theorem PgrAt.up (h:PgrAt M w d t) (hb:Below w.heap.size w w'):PgrAt M w' d t:=h.off (S:=fun _=>False) (Off.of_below hb) (fun _ _=>id) (M.off h.at_ (Off.of_below (S:=fun _=>False) hb) (fun _ h=>h.elim)) (fun _=>.inl)
theorem PgrAt.setPool {F':Nat→Fr} {h' c':Nat} {g':Int→Option Nat} (h:PgrAt M w d t) (ho:Off (PB d.Pb d.B d.Mp) w w') (hp:PoolAt w' d.Pb d.B d.Mp d.n F' h' g' c'):PgrAt M w' d {t with F:=F',h:=h',g:=g',c:=c'}:=by
 obtain ⟨n1,n2,n3,n4,n5,n6⟩:=h.neQ
 have hQ:¬PB d.Pb d.B d.Mp d.Q:=fun e=>by rcases e with e|e|e;exact n1 e;exact n2 e;exact n3 e
 have hM:¬PB d.Pb d.B d.Mp d.Mm:=fun e=>by rcases e with e|e|e;exact n5 e.symm;exact n6 e.symm;exact h.neM e.symm
 have hl:=h.ltQ
 refine ⟨(ho.cell (p:=⟨d.Q,0,none⟩) hl hQ).trans h.q0,(ho.cell (p:=⟨d.Q,1,none⟩) hl hQ).trans h.q1,(ho.cell (p:=⟨d.Q,2,none⟩) hl hQ).trans h.q2,(ho.cell (p:=⟨d.Q,3,none⟩) hl hQ).trans h.q3,(ho.cell (p:=⟨d.Q,4,none⟩) hl hQ).trans h.q4,(ho.cell (p:=⟨d.Q,5,none⟩) hl hQ).trans h.q5,
  fun k=>(ho.frozen (p:=⟨d.Q,k,none⟩) hl hQ).trans (h.qz k),hp,h.mp.off ho hM,fun i x hx=>(h.pg i x hx).off h.zs.1 ho (fun k hk e=>?_),M.off h.at_ ho (fun k e=>?_),h.nO,h.inj,h.neM,h.zs⟩
 · obtain ⟨_,e2,e3,e4,_⟩:=h.neX hx hk
   rcases e with e|e|e
   · exact e2 e
   · exact e3 e
   · exact e4 e
 · rcases e with rfl|rfl|rfl
   · exact h.nO _ (.inr (.inl rfl))
   · exact h.nO _ (.inr (.inr (.inl rfl)))
   · exact h.nO _ (.inr (.inr (.inr (.inl rfl))))
theorem own_upd {pm:Int→Option Pg} {id:Int} {x x':Pg} (hx:pm id=some x) {k:Nat} (hk:ownP d (updP pm id (some x')) k):ownP d pm k∨x'.blk k:=by
 rcases hk with e|e|e|e|e|⟨i,y,hy,hb⟩
 · exact .inl (.inl e)
 · exact .inl (.inr (.inl e))
 · exact .inl (.inr (.inr (.inl e)))
 · exact .inl (.inr (.inr (.inr (.inl e))))
 · exact .inl (.inr (.inr (.inr (.inr (.inl e)))))
 · unfold updP at hy
   split at hy
   · cases hy;exact .inr hb
   · exact .inl (.inr (.inr (.inr (.inr (.inr ⟨i,y,hy,hb⟩)))))
theorem PgrAt.setPage {id:Int} {x x':Pg} (h:PgrAt M w d t) (hx:t.pm id=some x) (hX:x'.X=x.X) (hblk:∀k,x'.blk k→x.blk k∨(¬ownP d t.pm k∧¬t.O k)) (ho:Off x.blk w w') (hp:PgAt w' d.z x'):PgrAt M w' d {t with pm:=updP t.pm id (some x')}:=by
 have hown:∀k,x.blk k→ownP d t.pm k:=fun k hk=>.inr (.inr (.inr (.inr (.inr ⟨id,x,hx,hk⟩))))
 have hQ:¬x.blk d.Q:=fun e=>(h.neX hx e).1 rfl
 have hl:=h.ltQ
 refine ⟨(ho.cell (p:=⟨d.Q,0,none⟩) hl hQ).trans h.q0,(ho.cell (p:=⟨d.Q,1,none⟩) hl hQ).trans h.q1,(ho.cell (p:=⟨d.Q,2,none⟩) hl hQ).trans h.q2,(ho.cell (p:=⟨d.Q,3,none⟩) hl hQ).trans h.q3,(ho.cell (p:=⟨d.Q,4,none⟩) hl hQ).trans h.q4,(ho.cell (p:=⟨d.Q,5,none⟩) hl hQ).trans h.q5,
  fun k=>(ho.frozen (p:=⟨d.Q,k,none⟩) hl hQ).trans (h.qz k),h.pool.off ho (fun e=>(h.neX hx e).2.1 rfl) (fun e=>(h.neX hx e).2.2.1 rfl) (fun e=>(h.neX hx e).2.2.2.1 rfl),?_,fun i y hy=>?_,M.off h.at_ ho (fun k hk=>h.nO k (hown k hk)),fun k hk=>?_,fun i j y1 y2 k e1 e2 b1 b2=>?_,h.neM,h.zs⟩
 · have h1:=h.mp.off ho (fun e=>(h.neX hx e).2.2.2.2 rfl)
   have e:pgF (visP (updP t.pm id (some x')) t.hole)=pgF (visP t.pm t.hole):=pgF_congr fun k=>by
    unfold visP updP
    by_cases hk:some k=t.hole
    · rw [if_pos hk,if_pos hk]
    · rw [if_neg hk,if_neg hk]
      by_cases hk2:k=id
      · rw [if_pos hk2,hk2,hx];simp [hX]
      · rw [if_neg hk2]
   show MapIs _ _ _ _ (pgF (visP (updP t.pm id (some x')) t.hole)) _
   rw [e]
   exact h1
 · have hy':(if i=id then some x' else t.pm i)=some y:=hy
   by_cases hi:i=id
   · rw [if_pos hi] at hy';cases hy';exact hp
   · rw [if_neg hi] at hy'
     exact (h.pg i y hy').off h.zs.1 ho (fun k hk e=>hi (h.inj i id y x k hy' hx hk e))
 · rcases own_upd hx hk with e|e
   · exact h.nO k e
   · rcases hblk k e with e|e
     · exact h.nO k (hown k e)
     · exact e.2
 · have e1':(if i=id then some x' else t.pm i)=some y1:=e1
   have e2':(if j=id then some x' else t.pm j)=some y2:=e2
   by_cases hi:i=id<;>by_cases hj:j=id
   · rw [hi,hj]
   · rw [if_pos hi] at e1';rw [if_neg hj] at e2'
     cases e1'
     rcases hblk k b1 with e|e
     · exact hi.trans (h.inj id j x y2 k hx e2' e b2)
     · exact absurd (.inr (.inr (.inr (.inr (.inr ⟨j,y2,e2',b2⟩))))) e.1
   · rw [if_neg hi] at e1';rw [if_pos hj] at e2'
     cases e2'
     rcases hblk k b2 with e|e
     · exact (h.inj i id y1 x k e1' hx b1 e).trans hj.symm
     · exact absurd (.inr (.inr (.inr (.inr (.inr ⟨i,y1,e1',b1⟩))))) e.1
   · rw [if_neg hi] at e1';rw [if_neg hj] at e2'
     exact h.inj i j y1 y2 k e1' e2' b1 b2
theorem PgrAt.virt {id:Int} {x:Pg} (h:PgrAt M w d t) (hh:t.hole=none) (hn:t.pm id=none) (hp:PgAt w d.z x) (hf:∀k,x.blk k→¬ownP d t.pm k∧¬t.O k):PgrAt M w d {t with pm:=updP t.pm id (some x),hole:=some id}:=by
 refine ⟨h.q0,h.q1,h.q2,h.q3,h.q4,h.q5,h.qz,h.pool,?_,fun i y hy=>?_,h.at_,fun k hk=>?_,fun i j y1 y2 k e1 e2 b1 b2=>?_,h.neM,h.zs⟩
 · have e:pgF (visP (updP t.pm id (some x)) (some id))=pgF (visP t.pm t.hole):=pgF_congr fun k=>by
    unfold visP updP
    rw [hh,if_neg (show ¬some k=none from fun e=>by cases e)]
    by_cases hk2:k=id
    · rw [if_pos (by rw [hk2]),hk2,hn]
    · rw [if_neg (fun e=>hk2 (Option.some.inj e)),if_neg hk2]
   show MapIs _ _ _ _ (pgF (visP (updP t.pm id (some x)) (some id))) _
   rw [e]
   exact h.mp
 · have hy':(if i=id then some x else t.pm i)=some y:=hy
   by_cases hi:i=id
   · rw [if_pos hi] at hy';cases hy';exact hp
   · rw [if_neg hi] at hy';exact h.pg i y hy'
 · rcases hk with e|e|e|e|e|⟨i,y,hy,hb⟩
   · exact h.nO k (.inl e)
   · exact h.nO k (.inr (.inl e))
   · exact h.nO k (.inr (.inr (.inl e)))
   · exact h.nO k (.inr (.inr (.inr (.inl e))))
   · exact h.nO k (.inr (.inr (.inr (.inr (.inl e)))))
   · have hy':(if i=id then some x else t.pm i)=some y:=hy
     by_cases hi:i=id
     · rw [if_pos hi] at hy';cases hy';exact (hf k hb).2
     · rw [if_neg hi] at hy';exact h.nO k (.inr (.inr (.inr (.inr (.inr ⟨i,y,hy',hb⟩)))))
 · have e1':(if i=id then some x else t.pm i)=some y1:=e1
   have e2':(if j=id then some x else t.pm j)=some y2:=e2
   by_cases hi:i=id<;>by_cases hj:j=id
   · rw [hi,hj]
   · rw [if_pos hi] at e1';rw [if_neg hj] at e2'
     cases e1'
     exact absurd (.inr (.inr (.inr (.inr (.inr ⟨j,y2,e2',b2⟩))))) (hf k b1).1
   · rw [if_neg hi] at e1';rw [if_pos hj] at e2'
     cases e2'
     exact absurd (.inr (.inr (.inr (.inr (.inr ⟨i,y1,e1',b1⟩))))) (hf k b2).1
   · rw [if_neg hi] at e1';rw [if_neg hj] at e2'
     exact h.inj i j y1 y2 k e1' e2' b1 b2
theorem own_new (h:PgrAt M w d t) {k:Nat} (hk:w.heap.size≤k):¬ownP d t.pm k∧¬t.O k:=⟨fun e=>by have:=h.own_lt e;omega,fun e=>by have:=M.lt h.at_ e;omega⟩
theorem PgrAt.setMap {pm':Int→Option Pg} {hole':Option Int} {c':Nat} (h:PgrAt M w d t) (ho:Off (· =d.Mm) w w') (hm:MapIs Tryz.prog 3 w' d.Mm (pgF (visP pm' hole')) c') (hsub:∀k x,pm' k=some x→t.pm k=some x):PgrAt M w' d {t with pm:=pm',hole:=hole',cm:=c'}:=by
 obtain ⟨n1,n2,n3,n4,n5,n6⟩:=h.neQ
 have hl:=h.ltQ
 have hown:∀k,ownP d pm' k→ownP d t.pm k:=fun k hk=>by
  rcases hk with e|e|e|e|e|⟨i,y,hy,hb⟩
  · exact .inl e
  · exact .inr (.inl e)
  · exact .inr (.inr (.inl e))
  · exact .inr (.inr (.inr (.inl e)))
  · exact .inr (.inr (.inr (.inr (.inl e))))
  · exact .inr (.inr (.inr (.inr (.inr ⟨i,y,hsub i y hy,hb⟩))))
 exact ⟨(ho.cell (p:=⟨d.Q,0,none⟩) hl n4).trans h.q0,(ho.cell (p:=⟨d.Q,1,none⟩) hl n4).trans h.q1,(ho.cell (p:=⟨d.Q,2,none⟩) hl n4).trans h.q2,(ho.cell (p:=⟨d.Q,3,none⟩) hl n4).trans h.q3,(ho.cell (p:=⟨d.Q,4,none⟩) hl n4).trans h.q4,(ho.cell (p:=⟨d.Q,5,none⟩) hl n4).trans h.q5,
  fun k=>(ho.frozen (p:=⟨d.Q,k,none⟩) hl n4).trans (h.qz k),h.pool.off ho n5 n6 h.neM,hm,fun i x hx=>(h.pg i x (hsub i x hx)).off h.zs.1 ho (fun k hk e=>(h.neX (hsub i x hx) hk).2.2.2.2 e),M.off h.at_ ho (fun k e=>by rw [e];exact h.nO _ (.inr (.inr (.inr (.inr (.inl rfl)))))),fun k hk=>h.nO k (hown k hk),
  fun i j x y k e1 e2=>h.inj i j x y k (hsub i x e1) (hsub j y e2),h.neM,h.zs⟩
theorem PgrAt.setNx (h:PgrAt M w d t) (nx:Nat):PgrAt M (w.setCell ⟨d.Q,5,none⟩ (.int .i64 (nx:Nat))) d {t with nx:=nx}∧Off (· =d.Q) w (w.setCell ⟨d.Q,5,none⟩ (.int .i64 (nx:Nat))):=by
 have ho:Off (· =d.Q) w (w.setCell ⟨d.Q,5,none⟩ (.int .i64 (nx:Nat))):=(Off.refl (· =d.Q) w).setCell (p:=⟨d.Q,5,none⟩) rfl _
 obtain ⟨n1,n2,n3,n4,n5,n6⟩:=h.neQ
 have oc:∀k,k≠5→(w.setCell ⟨d.Q,5,none⟩ (.int .i64 (nx:Nat))).cell? ⟨d.Q,k,none⟩=w.cell? ⟨d.Q,k,none⟩:=fun k hk=>World.cell?_setCell_other _ _ _ _ (fun e=>by injection e with _ e2;omega)
 refine ⟨⟨(oc 0 (by omega)).trans h.q0,(oc 1 (by omega)).trans h.q1,(oc 2 (by omega)).trans h.q2,(oc 3 (by omega)).trans h.q3,(oc 4 (by omega)).trans h.q4,World.cell?_setCell_same _ _ _ h.q5,fun k=>(World.frozen?_setCell _ _ _ _).trans (h.qz k),h.pool.off ho (fun e=>n1 e.symm) (fun e=>n2 e.symm) (fun e=>n3 e.symm),h.mp.off ho (fun e=>n4 e.symm),
  fun i x hx=>(h.pg i x hx).off h.zs.1 ho (fun k hk e=>(h.neX hx hk).1 e),M.off h.at_ ho (fun k e=>by rw [e];exact h.nO _ (.inl rfl)),h.nO,h.inj,h.neM,h.zs⟩,ho⟩
end
set_option maxRecDepth 100000
set_option maxHeartbeats 4000000
def cont (rd:Rdr) (z:Nat) (x:Pg):Option Bytes:=match x.bb with
 |some (_,_,L)=>some L
 |none=>if x.zero then some (zeros z) else (rd x.at_).bind fun b=>if b.length=z then some b else none
structure SkSame {σ:Type} {K:SnkF σ} (P:PSnk K) (s s':σ):Prop where
 inn:P.In s'
 rd:P.rd s'=P.rd s
 cnt:P.cnt s'=P.cnt s
 room:P.room s'=P.room s
 rdy:∀n,K.Rdy s n→K.Rdy s' n
theorem SkSame.refl {σ:Type} {K:SnkF σ} {P:PSnk K} {s:σ} (h:P.In s):SkSame P s s:=⟨h,rfl,rfl,rfl,fun _ h=>h⟩
def FreshBy (w w':World) (z:Nat) (v:Value) (L:Bytes):Prop:=∃B c,v=.slice (some ⟨B,0,none⟩) z c∧ByAt w' z B c L∧w.heap.size≤B
theorem OwB.byAt {B:Nat} {w:World} {g c:Nat} {L:Bytes} (h:OwB B w (.slice (some ⟨g,0,none⟩) L.length c) L) (hp:0<L.length):ByAt w L.length g c L∧B≤g:=by
 obtain ⟨_,h2,h3⟩:=h.part
 rcases h.2 with ⟨e,_⟩|⟨g',cap,cur,e,hb,hg,q1,q2,q3,q4⟩
 · cases e
 · cases e
   refine ⟨⟨rfl,h2,h3,fun k=>by unfold World.frozen?;rw [hg];simp,?_⟩,hb⟩
   exact ⟨cur,_,hg,by omega⟩
theorem FrB.fresh {w0 w w':World} {b c:Nat} {L:Bytes} {z:Nat} (h:FrB w w' (.slice (some ⟨b,0,none⟩) z c) L) (hz:0<z) (hb:w0.heap.size≤w.heap.size):FreshBy w0 w' z (.slice (some ⟨b,0,none⟩) z c) L:=by
 have hl:=h.len
 subst hl
 obtain ⟨h1,h2⟩:=h.own.byAt hz
 exact ⟨b,c,rfl,h1,Nat.le_trans hb h2⟩
def PkPost {σ:Type} {K:SnkF σ} {M:Snk K} (P:PSnk K) (w:World) (d:PD) (t:PSt σ) (x:Pg) (e:Ending) (w':World):Prop:=
 ∃ s' v er,e=.returned (.tuple #[v,.int .i64 er])∧PgrAt M w' d {t with s:=s'}∧Off t.O w w'∧SkSame P t.s s'∧
   ((∃L,cont (P.rd t.s) d.z x=some L∧L.length=d.z∧er=0∧FreshBy w w' d.z v L)∨(cont (P.rd t.s) d.z x=none∧x.bb=none∧x.zero=false∧er=20∧v=.slice none 0 0))
section
variable {σ:Type} {K:SnkF σ} {M:Snk K} {P:PSnk K} {w w':World} {d:PD} {t:PSt σ}
theorem get_same (hK:K.Good) (hmi:P.Miss) {s:σ} (hin:P.In s) (a:Int×Int):SkSame P s (K.get s a).1∧((∃b,P.rd s a=some b∧(K.get s a).2=(b,0))∨(P.rd s a=none∧(K.get s a).2.2=20)):=by
 cases h:P.rd s a with
 | some b=>
   obtain ⟨h1,h2,h3,h4,h5⟩:=P.get s a b hin h
   exact ⟨⟨h2,h3,h4,h5,fun n e=>hK.getR s a n e⟩,.inl ⟨b,rfl,h1⟩⟩
 | none=>
   obtain ⟨h1,h2,h3,h4,h5⟩:=hmi.no s a hin h
   exact ⟨⟨h2,h3,h4,h5,fun n e=>hK.getR s a n e⟩,.inr ⟨rfl,h1⟩⟩
theorem pk_yes {x:Pg} {L:Bytes} {s':σ} {w1 w2:World} {b c:Nat} (hc:cont (P.rd t.s) d.z x=some L) (hl:L.length=d.z) (ho:Off t.O w w1) (h:PgrAt M w1 d {t with s:=s'}) (hs:SkSame P t.s s') (hf:FrB w1 w2 (.slice (some ⟨b,0,none⟩) d.z c) L) (hz:0<d.z):
 PkPost (M:=M) P w d t x (.returned (.tuple #[.slice (some ⟨b,0,none⟩) d.z c,.int .i64 0])) w2:=
 ⟨s',_,0,rfl,h.up hf.bel,ho.step hf.bel,hs,.inl ⟨L,hc,hl,rfl,hf.fresh hz ho.size⟩⟩
theorem pk_no {x:Pg} {s':σ} {w1:World} (hc:cont (P.rd t.s) d.z x=none) (hb:x.bb=none∧x.zero=false) (ho:Off t.O w w1) (h:PgrAt M w1 d {t with s:=s'}) (hs:SkSame P t.s s'):
 PkPost (M:=M) P w d t x (.returned (.tuple #[.slice none 0 0,.int .i64 20])) w1:=
 ⟨s',_,20,rfl,h,ho,hs,.inr ⟨hc,hb.1,hb.2,rfl,rfl⟩⟩
theorem PgrAt.sink {s':σ} (h:PgrAt M w d t) (ha:M.At w' t.O s') (ho:Off t.O w w'):PgrAt M w' d {t with s:=s'}:=h.off ho h.nO ha (fun _=>.inl)
theorem peek_any (hK:K.Good) (hmi:P.Miss) (h:PgrAt M w d t) {id:Int} {x:Pg} (hx:t.pm id=some x) (hin:P.In t.s):
 Calls Tryz.prog 123 #[.pointer (some ⟨d.Q,0,none⟩),.pointer (some ⟨x.X,0,none⟩)] w (PkPost (M:=M) P w d t x):=by
 have H:=hJ h
 have HPG:=hJ (h.pg id x hx)
 have HIN:=hJ hin
 have HMI:=hJ hmi
 obtain ⟨hz1,hz2⟩:=h.zs
 have q1:=h.q1
 have q3:=h.q3
 have lQ:=h.ltQ
 have p0:=(h.pg id x hx).c0
 have p1:=(h.pg id x hx).c1
 have p2:=(h.pg id x hx).c2
 have p4:=(h.pg id x hx).c4
 have lX:=(h.pg id x hx).lt
 have heq:=fun (w:World) (a:Option Addr) (n c:Nat)=>run_neq_slice_nil_any (P:=Tryz.prog) w 24 5 a n c 0 0 Tryz.underlying24
 clear h hx hin hmi
 go_enter Tryz.func123,Tryz.ntmps123
 cases hb:x.bb with
 | some y=>
   obtain ⟨B,c,L⟩:=y
   have hby:=HPG.out.bs B c L hb
   have hv:x.bv=.slice (some ⟨B,0,none⟩) L.length c:=by unfold Pg.bv;rw [hb]
   have hl:=hby.len
   rw [hv,hl] at p0
   have HC:Hid (cont (P.rd t.s) d.z x=some L):=hJ (by unfold cont;rw [hb])
   have HCL:=hJ (clone_any w (some ⟨B,0,none⟩) d.z c L hby.sby (by omega))
   have HL:=hJ hl
   clear hb hv hby hl
   go_wp2_with fail
   refine HCL.out.mono ?_
   rintro e w1 ⟨A',c',rfl,hf,hA⟩
   have HF:=hJ hf
   have HA:=hJ hA
   clear hf hA
   go_wp2
   go_ret2
   obtain ⟨b,rfl⟩:=HA.out (by omega)
   exact ⟨t.s,_,0,rfl,H.out.up HF.out.bel,Off.of_below HF.out.bel,SkSame.refl HIN.out,.inl ⟨L,HC.out,HL.out,rfl,HF.out.fresh (w0:=w) (by omega) jN⟩⟩
 | none=>
   have hv:x.bv=.slice none 0 0:=by unfold Pg.bv;rw [hb]
   rw [hv] at p0
   cases hz:x.zero with
   | true=>
     have HC:Hid (cont (P.rd t.s) d.z x=some (zeros d.z)):=hJ (by unfold cont;rw [hb,hz];rfl)
     rw [hz] at p4
     have hmk:=run_make_bytes d.z (by omega) w
     clear hb hv hz
     go_wp2
     go_ret2
     have hf:=FrB.zmade w d.z (by omega)
     refine ⟨t.s,_,0,rfl,H.out.up hf.bel,Off.of_below hf.bel,SkSame.refl HIN.out,.inl ⟨zeros d.z,HC.out,zeros_length _,rfl,hf.fresh (by omega) jN⟩⟩
   | false=>
     have HBB:=hJ (show x.bb=none∧x.zero=false from ⟨hb,hz⟩)
     rw [hz] at p4
     have hg:=fun (w':World) (hb:Off (fun _=>False) w w')=>M.get x.at_ (M.off H.out.at_ hb (fun _=>False.elim))
     have HG:=hJ hg
     have HCONT:=hJ (show cont (P.rd t.s) d.z x=(P.rd t.s x.at_).bind fun b=>if b.length=d.z then some b else none by unfold cont;rw [hb,hz];rfl)
     have HSAME:=hJ (get_same hK HMI.out HIN.out x.at_)
     have nG:=M.nilG
     have mG:=M.metG
     have eG:=M.entG
     unfold addrV at HG
     clear hb hv hz hg
     go_upto_region 5 with (fail)
     refine wp_region_up_tail 10 (by kernel_rfl) (by kernel_rfl) (by kernel_rfl) ?_
     simp only [List.take_succ_cons,List.take_zero,List.drop_succ_cons,List.drop_zero]
     repeat (go_big_quiet_step (fail))
     refine wpQuiet_nil ?_
     rintro _ ⟨g,rfl⟩
     go_wp2_with fail
     have hb1:Off (fun _=>False) w g.world:=Off.of_below g.h
     refine (HG.out g.world hb1).mono ?_
     rintro e w1 ⟨v,rfl,hA,hof,⟨A,n,c,rfl,hnc,hS,hAd⟩,hfr,hl40⟩
     have hO:Off t.O w w1:=(Off.of_below g.h).trans hof
     have H1:Hid (PgrAt M w1 d {t with s:=(K.get t.s x.at_).1}):=hJ (H.out.sink hA hO)
     have HOF:=hJ hO
     have HS:=hJ hS
     have HS1:=HSAME.out
     have HC:=HCONT.out
     have hsz:=hO.size
     have q1':w1.cell? ⟨d.Q,1,none⟩=some (.int .i64 (d.z:Nat)):=H1.out.q1
     have lQ':=H1.out.ltQ
     clear hA hof hS hAd hfr hO HG q1 q3 lQ p0 p1 p2 p4 lX heq nG mG eG hb1
     rcases HS1 with ⟨hs1,⟨b,hb,hbg⟩|⟨hb,hbg⟩⟩
     · generalize K.get t.s x.at_=y at *
       obtain ⟨ss,bb,er⟩:=y
       simp only at H1 HS hs1 hbg hl40 ⊢
       obtain ⟨rfl,rfl⟩:=hbg
       have HSS:=hJ hs1
       have hnl:=HS.out.1
       rw [hb] at HC
       simp only [Option.bind_some] at HC
       clear hs1 hb
       by_cases hz:b.length=d.z
       · rw [if_pos hz] at HC
         have HCC:=hJ HC
         have hne:decide (n=d.z)=true:=by simp;omega
         have hne2:((n:Int) !=(d.z:Int))=false:=by simp;omega
         have HZ:=hJ hz
         have HNZ:=hJ (show n=d.z by omega)
         clear HC hz hnl
         have HCL:=hJ (clone_any w1 A n c b HS.out (by have:=HNZ.out;omega))
         rw [HNZ.out] at HCL
         go_wp2_with fail
         rw [HNZ.out]
         refine HCL.out.mono ?_
         rintro e w2 ⟨A',c',rfl,hf,hA⟩
         have HF:=hJ hf
         have HA:=hJ hA
         clear hf hA
         go_wp2
         go_ret2
         obtain ⟨b',rfl⟩:=HA.out (by omega)
         exact pk_yes HCC.out HZ.out HOF.out H1.out HSS.out HF.out (by omega)
       · rw [if_neg hz] at HC
         have HCC:=hJ HC
         have hne:decide (n=d.z)=false:=by simp;omega
         have hne2:((n:Int) !=(d.z:Int))=true:=by simp;omega
         have HZ:=hJ (show ¬n=d.z by omega)
         clear HC hz hnl
         go_wp2
         go_ret2
         exact pk_no HCC.out HBB.out HOF.out H1.out HSS.out
     · generalize K.get t.s x.at_=y at *
       obtain ⟨ss,bb,er⟩:=y
       simp only at H1 HS hs1 hbg hl40 ⊢
       subst hbg
       have HSS:=hJ hs1
       rw [hb] at HC
       simp only [Option.bind_none] at HC
       have HCC:=hJ HC
       clear hs1 hb HC
       go_wp2
       go_ret2
       exact pk_no HCC.out HBB.out HOF.out H1.out HSS.out
end
set_option maxRecDepth 100000
set_option maxHeartbeats 4000000
structure PI {σ:Type} {K:SnkF σ} (P:PSnk K) (d:PD) (t:PSt σ):Prop where
 inn:P.In t.s
 kv:KInv d.n t.F t.g
 pz:∀j,j<d.n→(t.F j).pins=0
 res:∀i j,t.g i=some j→∃x,t.pm i=some x∧x.bb≠none
 has:∀i x,t.pm i=some x→x.bb≠none→t.g i≠none
 put:∀i x,t.pm i=some x→x.put=true→(∀B c L,x.bb=some (B,c,L)→P.rd t.s x.at_=some L)∧(x.zero=true→P.rd t.s x.at_=some (zeros d.z))
 zer:∀i x B c L,t.pm i=some x→x.zero=true→x.bb=some (B,c,L)→L=zeros d.z
 dty:∀i x,t.pm i=some x→x.put=false→x.zero=false→x.bb≠none
 ids:∀i x,t.pm i=some x→1≤i∧i≤t.nx∧(i=t.nx→t.hole=some i)
 hol:∀i,t.hole=some i→i=t.nx
 nx1:1≤t.nx
structure Ev {σ:Type} {K:SnkF σ} (P:PSnk K) (z k:Nat) (E:Int→Prop) (t t':PSt σ):Prop where
 no:∀i,¬E i→t.pm i=none→t'.pm i=none
 pg:∀i x,¬E i→t.pm i=some x→∃x',t'.pm i=some x'∧x'.X=x.X∧x'.zero=x.zero∧x'.uses=x.uses∧(x.put=true→x'.put=true∧x'.at_=x.at_)∧(∀L,cont (P.rd t.s) z x=some L→cont (P.rd t'.s) z x'=some L)
 sub:SubR (P.rd t.s) (P.rd t'.s)
 cnt:P.cnt t'.s≤P.cnt t.s+k
 keep:(∀i x,t.pm i=some x→x.put=true)→P.cnt t'.s=P.cnt t.s
 room:P.room t.s<0→P.room t'.s<0
 rdy:∀n,K.Rdy t.s (n+k)→K.Rdy t'.s n
structure Num {σ:Type} (t t':PSt σ):Prop where
 nx:t'.nx=t.nx
 hole:t'.hole=t.hole
 cm:t'.cm=t.cm
def Own {σ:Type} (d:PD) (t:PSt σ) (k:Nat):Prop:=ownP d t.pm k∨t.O k
structure Stp {σ:Type} {K:SnkF σ} (M:Snk K) (P:PSnk K) (w w':World) (d:PD) (t t':PSt σ):Prop where
 at_:PgrAt M w' d t'
 inv:PI P d t'
 off:Off (Own d t) w w'
 own:∀k,Own d t' k→Own d t k∨w.heap.size≤k
theorem cont_sub {rd rd':Rdr} {z:Nat} {x:Pg} {L:Bytes} (hs:SubR rd rd') (h:cont rd z x=some L):cont rd' z x=some L:=by
 unfold cont at h ⊢
 split at h
 · exact h
 · split at h
   · rename_i hz
     rw [if_pos hz]
     exact h
   · rename_i hz
     rw [if_neg hz]
     cases hr:rd x.at_ with
     |none=>rw [hr] at h;simp at h
     |some b=>rw [hs _ _ hr];rw [hr] at h;exact h
def none9:Int→Prop:=fun _=>False
section
variable {σ:Type} {K:SnkF σ} {M:Snk K} {P:PSnk K} {w w' w1 w2:World} {d:PD} {t t' t1 t2:PSt σ} {z k k1 k2:Nat} {E:Int→Prop}
theorem Num.refl (t:PSt σ):Num t t:=⟨rfl,rfl,rfl⟩
theorem Num.trans (h:Num t t1) (g:Num t1 t2):Num t t2:=⟨g.nx.trans h.nx,g.hole.trans h.hole,g.cm.trans h.cm⟩
theorem Ev.refl (hK:K.Good) (t:PSt σ):Ev P z k E t t:=
 ⟨fun _ _=>id,fun i x _ h=>⟨x,h,rfl,rfl,rfl,fun h=>⟨h,rfl⟩,fun _ h=>h⟩,SubR.refl _,Nat.le_add_right _ _,fun _=>rfl,id,fun n h=>hK.mono _ _ _ h (Nat.le_add_right _ _)⟩
theorem Ev.trans (h:Ev P z k1 none9 t t1) (g:Ev P z k2 E t1 t2):Ev P z (k1+k2) E t t2:=by
 refine ⟨fun i he hi=>g.no i he (h.no i id hi),fun i x he hx=>?_,h.sub.trans g.sub,by have:=h.cnt;have:=g.cnt;omega,fun hp=>?_,fun hr=>g.room (h.room hr),fun n hn=>g.rdy n (h.rdy _ (by rw [show n+k2+k1=n+(k1+k2) by omega];exact hn))⟩
 · obtain ⟨x1,e1,e2,e3,e4,e5,e6⟩:=h.pg i x id hx
   obtain ⟨x2,f1,f2,f3,f4,f5,f6⟩:=g.pg i x1 he e1
   exact ⟨x2,f1,f2.trans e2,f3.trans e3,f4.trans e4,fun hp=>⟨(f5 (e5 hp).1).1,(f5 (e5 hp).1).2.trans (e5 hp).2⟩,fun L hL=>f6 L (e6 L hL)⟩
 · rw [g.keep,h.keep hp]
   intro i x1 hx1
   cases hx:t.pm i with
   |none=>rw [h.no i id hx] at hx1;cases hx1
   | some x=>
     obtain ⟨x1',e1,e2,e3,e4,e5,e6⟩:=h.pg i x id hx
     rw [e1] at hx1
     cases hx1
     exact (e5 (hp i x hx)).1
theorem Ev.more (hK:K.Good) (h:Ev P z k1 E t t1) (hk:k1≤k2):Ev P z k2 E t t1:=⟨h.no,h.pg,h.sub,by have:=h.cnt;omega,h.keep,h.room,fun n hn=>h.rdy n (hK.mono _ _ _ hn (by omega))⟩
theorem Ev.wide {E':Int→Prop} (h:Ev P z k E t t1) (hE:∀i,E i→E' i):Ev P z k E' t t1:=⟨fun i he=>h.no i (fun e=>he (hE i e)),fun i x he=>h.pg i x (fun e=>he (hE i e)),h.sub,h.cnt,h.keep,h.room,h.rdy⟩
theorem Stp.refl (h:PgrAt M w d t) (hi:PI P d t):Stp M P w w d t t:=⟨h,hi,Off.refl _ _,fun _=>.inl⟩
theorem Stp.trans (h:Stp M P w w1 d t t1) (g:Stp M P w1 w2 d t1 t2):Stp M P w w2 d t t2:=by
 refine ⟨g.at_,g.inv,h.off.late g.off (fun i hi ho=>?_),fun i ho=>?_⟩
 · rcases h.own i ho with e|e
   · exact e
   · omega
 · rcases g.own i ho with e|e
   · exact h.own i e
   · have:=h.off.size;exact .inr (by omega)
theorem Stp.up (h:Stp M P w w1 d t t1) (hb:Below w1.heap.size w1 w2):Stp M P w w2 d t t1:=⟨h.at_.up hb,h.inv,h.off.step hb,h.own⟩
theorem PgrAt.ltO (h:PgrAt M w d t) {k:Nat} (hk:Own d t k):k<w.heap.size:=by
 rcases hk with e|e
 · exact h.own_lt e
 · exact M.lt h.at_ e
theorem Stp.below (h:PgrAt M w d t) (hi:PI P d t) (hb:Below w.heap.size w w'):Stp M P w w' d t t:=(Stp.refl h hi).up hb
theorem stp_sink {s':σ} (hi:PI P d t) (h:PgrAt M w' d {t with s:=s'}) (ho:Off t.O w w') (hs:SkSame P t.s s'):Stp M P w w' d t {t with s:=s'}∧Ev P z 0 E t {t with s:=s'}:=by
 refine ⟨⟨h,⟨hs.inn,hi.kv,hi.pz,hi.res,hi.has,fun i x hx hp=>?_,hi.zer,hi.dty,hi.ids,hi.hol,hi.nx1⟩,ho.mono fun k e=>.inr e,fun k e=>.inl e⟩,fun _ _=>id,fun i x _ hx=>⟨x,hx,rfl,rfl,rfl,fun h=>⟨h,rfl⟩,fun L hL=>?_⟩,?_,by show P.cnt s'≤_;rw [hs.cnt];omega,fun _=>hs.cnt,fun hr=>?_,fun n hn=>hs.rdy n hn⟩
 · have e:P.rd ({t with s:=s'}:PSt σ).s=P.rd t.s:=hs.rd
   rw [e]
   exact hi.put i x hx hp
 · have e:P.rd ({t with s:=s'}:PSt σ).s=P.rd t.s:=hs.rd
   rw [e];exact hL
 · have e:P.rd ({t with s:=s'}:PSt σ).s=P.rd t.s:=hs.rd
   rw [e];exact SubR.refl _
 · show P.room s'<0
   rw [hs.room];exact hr
theorem num_sink (s':σ):Num t {t with s:=s'}:=⟨rfl,rfl,rfl⟩
theorem take_room {n h:Nat} {F:Nat→Fr} {g:Int→Option Nat} {key:Int} (I:KInv n F g) (hh:h<n) (hg:g key=none) (hc:cntF qUsed F n<n):
 ∃j,j<n∧(∀k,g k≠some j)∧TakeIs n (takeR n F h g key) j Fr.zero false 0 (putF F j (Fr.new key)) h (upd g key (some j))∧KInv n (putF F j (Fr.new key)) (upd g key (some j))∧cntF qUsed (putF F j (Fr.new key)) n=cntF qUsed F n+1:=by
 have hun:∀m,m≤n→cntF qUsed F m<m→∃j,j<n∧(F j).used=false:=by
  intro m
  induction m with
  |zero=>intro _ h;omega
  | succ m ih=>
    intro hm h
    cases hu:(F m).used with
    |false=>exact ⟨m,by omega,hu⟩
    | true=>
      rw [cntF_yes (q:=qUsed) hu] at h
      exact ih (by omega) (by omega)
 obtain ⟨j0,hj0,hu0⟩:=hun n jN hc
 obtain ⟨j1,e1,e2,e3,e4⟩:∃j:Nat,freeAt F n=j∧j<n∧(F j).used=false∧∀i,i<j→(F i).used=true:=by
  rcases first_spec (fun i=>!(F i).used) n with ⟨h1,h2⟩|⟨j,h1,h2,h3,h4⟩
  · have:=h2 j0 hj0
    simp [hu0] at this
  · exact ⟨j,h1,h2,by simpa using h3,fun i hi=>by simpa using h4 i hi⟩
 cases kt I hh (key:=key) with
 |used h1=>rw [hg] at h1;cases h1
 |free j h1 h2 h3 h4 h5 h6=>exact ⟨j,h2,h3,h4,h5,h6⟩
 | full h1 ht=>
   have:=ht.e
   unfold takeR at this
   rw [hg,e1,if_neg (by simp),if_pos (by omega)] at this
   simp at this
 | give r out F' h' h1 h2 h3 h4 h5 h6 h7 h8 ht=>
   have:=ht.given
   unfold takeR at this
   rw [hg,e1,if_neg (by simp),if_pos (by omega)] at this
   simp at this
end
end Go.Proofs.YtlhfjaagkgengaaGreat
