/- The shelf of almanaclaw11: Put, NewShelf; the sink. The shelf of almanaclaw11 as a sink of a tree: NewShelf, radix.New, Puts. From a walk to a row: every argument reads behind the call as it read befo -/
import Derived.Test.YtlhfjaagkgengaaGreatPC03
import Derived.Test.YtlhfjaagkgengaaGreatPC00
import Derived.ProofKit
import Derived.OpenShut
import Derived.Lib.SmallJoins
import Derived.MapViews
namespace Go.Proofs.YtlhfjaagkgengaaGreat
set_option maxRecDepth 100000
set_option maxHeartbeats 4000000
open Go.RowKit
set_option linter.unusedVariables false
set_option linter.unusedSimpArgs false
theorem by_info:(Tryz.prog.info? 24).map (fun i=>(i.zero,i.size,i.bytes))=some (some (.slice none 0 0),1,24):=by kernel_rfl
theorem run_appR {w:World} {rv:Value} {vs:List Value} {g:Nat} {A:Option Addr} {n c:Nat} (hown:w.ownsRow 0 24 1 rv vs.length vs) (hc:w.cell? ⟨g,0,none⟩=some (.slice A n c)) (hlen:vs.length≤2147483647) (ty:TypeId):
 ∃v' w',(Builtin.append_ #[179,179] ty #[rv,.slice (some ⟨g,0,none⟩) 1 1]).run Tryz.prog w=.ok v' w'∧w'.ownsRow 0 24 1 v' (vs ++ [Value.slice A n c]).length (vs ++ [Value.slice A n c])∧w.grownBy w' rv.ownBlock∧(v'.ownBlock=rv.ownBlock∨v'.ownBlock=some w.heap.size):=by
 obtain ⟨i0,hi,hz0,hz1,hz2⟩:=info_parts by_info
 obtain ⟨v',w',hr,ho,hg,_,hat⟩:=run_append_own_at (P:=Tryz.prog) w 0 179 ty 24 i0 _ 1 24 Tryz.underlying179 hi hz0 hz1 hz2 rfl (by omega) rv vs.length vs hown ⟨g,0,none⟩ 1 1 [.slice A n c]
  rfl (fun j u hj=>by
   have e:∀j,(⟨g,0,none⟩:Addr).add j=⟨g,j,none⟩:=fun j=>by unfold Addr.add;split<;>simp_all
   rw [e]
   match j,hj with
   |0,hj=>simp at hj;rw [hc,hj]) (fun u hu=>by
   simp only [List.mem_singleton] at hu
   subst hu
   simp [Value.oneCell']) (by unfold maxLen;omega) (by omega) (Nat.zero_le _)
 refine ⟨v',w',hr,?_,hg,hat⟩
 rw [List.length_append]
 exact ho
theorem step_appR {ops:Array Oper} {o:Oper} {a:Act} {w:World} {K:Act→World→Prop} {Q:Exit→Act→World→Prop} {E:Prop} (hgd:o.guard=none) (sl x:Operand)
 (ho:o.op=.call {callee:=.builtin .append,args:=#[sl,x],argTypes:=#[179,179]}) (rv:Value) (vs:List Value) (g:Nat) (A:Option Addr) (n c:Nat) (hs:a.eval sl=rv) (hown:w.ownsRow 0 24 1 rv vs.length vs) (hx:a.eval x=.slice (some ⟨g,0,none⟩) 1 1)
 (hc:w.cell? ⟨g,0,none⟩=some (.slice A n c)) (hlen:vs.length≤2147483647)
 (h:∀v' w',w'.ownsRow 0 24 1 v' (vs ++ [Value.slice A n c]).length (vs ++ [Value.slice A n c])→w.grownBy w' rv.ownBlock→(v'.ownBlock=rv.ownBlock∨v'.ownBlock=some w.heap.size)→(∃A2 n2 c2,v'=.slice A2 n2 c2)→K (a.put o.dst v') w'):
 if Region.wanted o (yielded ops a.tmps)=true then Oper.wp Tryz.prog o a w K Q else E:=by
 have hw:Region.wanted o (yielded ops a.tmps)=true:=by simp [Region.wanted,hgd]
 rw [if_pos hw]
 obtain ⟨v',w',hr,h1,h2,h3⟩:=run_appR hown hc hlen o.type
 unfold Oper.wp execOp
 simp only [ho,resolve,invoke,builtin,Sem.run_bind,Sem.run_pure,Result.andThen_ok,List.map_toArray,List.map_cons,List.map_nil,hs,hx,hr]
 refine h v' w' h1 h2 h3 ?_
 rcases h1.2 with ⟨rfl,_⟩|⟨g,cap,cur,rfl,_⟩
 · exact ⟨_,_,_,rfl⟩
 · exact ⟨_,_,_,rfl⟩
theorem ShIn.setFull {w:World} {S:Nat} {rv ov:Value} {vs:List Value} {s:ShS} (h:ShIn w S rv vs ov s) (x:Int) (hx:x<9223372036854775808):ShIn (w.setCell ⟨S,3,none⟩ (.int .i64 x)) S rv vs ov {s with full:=x}:=by
 have ho:Off (· =S) w (w.setCell ⟨S,3,none⟩ (.int .i64 x)):=(Off.refl (· =S) w).setCell (p:=⟨S,3,none⟩) rfl _
 have oc:∀k,k≠3→(w.setCell ⟨S,3,none⟩ (.int .i64 x)).cell? ⟨S,k,none⟩=w.cell? ⟨S,k,none⟩:=fun k hk=>World.cell?_setCell_other _ _ _ _ (fun e=>by injection e with _ e2;omega)
 exact ⟨(oc 0 (by omega)).trans h.c0,(oc 1 (by omega)).trans h.c1,(oc 2 (by omega)).trans h.c2,World.cell?_setCell_same _ _ _ h.c3,(oc 4 (by omega)).trans h.c4,fun k=>(World.frozen?_setCell _ _ _ _).trans (h.fr k),
  row_off h.row ho (fun g hg e=>h.neR (by rw [hg,e])),h.len,fun i v b e1 e2=>(h.it i v b e1 e2).offP ho ((h.neI v (jG e1)).mono fun b hb=>hb.1),h.ot.offP ho (h.neO.mono fun b hb=>hb.1),h.neR,h.neI,h.neO,⟨h.sz.1,h.sz.2.1,h.sz.2.2.1,hx⟩,fun k hk=>(oc k (by omega)).trans (h.big k hk)⟩
theorem ShIn.put {V w2 w4:World} {S:Nat} {rv ov rv':Value} {vs:List Value} {s:ShS} {b:Bytes} {A:Option Addr} {n c:Nat} {t:TypeId} (h:ShIn V S rv vs ov s) (hr:shK.Rdy s 1) (hbl:b.length≤5000) (hf:FrB V w2 (.slice A n c) b)
 (hrow:w4.ownsRow 0 24 1 rv' (vs ++ [Value.slice A n c]).length (vs ++ [Value.slice A n c])) (hg:(w2.alloc (.cells #[.slice A n c] t)).grownBy w4 rv.ownBlock) (hat:rv'.ownBlock=rv.ownBlock∨rv'.ownBlock=some (w2.alloc (.cells #[.slice A n c] t)).heap.size):
 ShIn (w4.setCell ⟨S,0,none⟩ rv') S rv' (vs ++ [Value.slice A n c]) ov {s with L:=s.L ++ [b]}∧Off (fun k=>k=S∨rv.ownBlock=some k) V (w4.setCell ⟨S,0,none⟩ rv')∧(∀g,rv'.ownBlock=some g→rv.ownBlock=some g∨V.heap.size≤g)∧VIn (fun k=>V.heap.size≤k) (.slice A n c)∧SlB (w4.setCell ⟨S,0,none⟩ rv') (.slice A n c) b:=by
 have hlS:=h.lt
 have hb2:=hf.bel
 have s2:=hb2.size
 have hal:Below w2.heap.size w2 (w2.alloc (.cells #[.slice A n c] t)):=jB.alloc jN _
 have o3:Off (fun k=>rv.ownBlock=some k) V w4:=((Off.of_below hb2).step hal).trans (grown_off hg)
 have hrb:=World.ownsRow.lt h.row
 have hrS:rv'.ownBlock≠some S:=by
  rcases hat with e|e
  · rw [e];exact h.neR
  · rw [e];simp;omega
 have o4:Off (fun k=>k=S∨rv.ownBlock=some k) V (w4.setCell ⟨S,0,none⟩ rv'):=(o3.mono fun _ e=>Or.inr e).trans ((Off.refl _ w4).setCell (p:=⟨S,0,none⟩) (.inl rfl) _)
 have oc:∀k,k≠0→(w4.setCell ⟨S,0,none⟩ rv').cell? ⟨S,k,none⟩=V.cell? ⟨S,k,none⟩:=fun k hk=>(World.cell?_setCell_other _ _ _ _ (fun e=>by injection e with _ e2;omega)).trans (o3.cell (p:=⟨S,k,none⟩) hlS h.neR)
 have hsl:=hf.slA
 have hv2:SlB w2 (.slice A n c) b:=hsl.1.slB
 have hvin:=hv2.inl
 have hvV:VIn (fun k=>V.heap.size≤k) (.slice A n c):=fun b o n c e _=>hsl.2 b o n c e
 have hv4:SlB (w4.setCell ⟨S,0,none⟩ rv') (.slice A n c) b:=by
  refine ((hv2.up hal).offP (grown_off hg) fun b o n c e h0 e2=>?_).offP ((Off.refl (· =S) w4).setCell (p:=⟨S,0,none⟩) rfl _) fun b o n c e h0 e2=>?_
  · have:=hvV b o n c e h0
    have:=(hrb b e2).2
    omega
  · have:=hvV b o n c e h0
    omega
 refine ⟨⟨World.cell?_setCell_same _ _ _ ((o3.cell (p:=⟨S,0,none⟩) hlS h.neR).trans h.c0),(oc 1 (by omega)).trans h.c1,(oc 2 (by omega)).trans h.c2,(oc 3 (by omega)).trans h.c3,(oc 4 (by omega)).trans h.c4,fun k=>(World.frozen?_setCell _ _ _ _).trans ((o3.frozen (p:=⟨S,k,none⟩) hlS h.neR).trans (h.fr k)),
  row_off hrow ((Off.refl (· =S) w4).setCell (p:=⟨S,0,none⟩) rfl _) (fun g hg e=>hrS (by rw [hg,e])),by simp [h.len],fun i v bb e1 e2=>?_,h.ot.offP o4 (h.neO.mono fun k hk e=>e.elim hk.1 hk.2),hrS,fun v hv=>?_,?_,⟨?_,?_,h.sz.2.2⟩,fun k hk=>(oc k (by omega)).trans (h.big k hk)⟩,o4,fun g hgg=>?_,hvV,hv4⟩
 · rw [List.getElem?_append] at e1 e2
   split at e1
   · rename_i hi
     rw [if_pos (by rw [←h.len];exact hi)] at e2
     exact (h.it i v bb e1 e2).offP o4 ((h.neI v (jG e1)).mono fun k hk e=>e.elim hk.1 hk.2)
   · rename_i hi
     rw [if_neg (by rw [←h.len];exact hi),←h.len] at e2
     have:i-vs.length=0:=by
      rcases Nat.eq_zero_or_pos (i-vs.length) with h0|h0
      · exact h0
      · rw [List.getElem?_eq_none (by simp;omega)] at e1;cases e1
     rw [this] at e1 e2
     simp at e1 e2
     subst e1 e2
     exact hv4
 · rcases List.mem_append.1 hv with hv|hv
   · intro k o n' c' e h0
     obtain ⟨k1,k2⟩:=h.neI v hv k o n' c' e h0
     refine ⟨k1,?_⟩
     rcases hat with e|e
     · rw [e];exact k2
     · rw [e]
       obtain ⟨i,hi,hie⟩:=List.getElem_of_mem hv
       have hL:i<s.L.length:=by rw [←h.len];exact hi
       have:=(h.it i v _ (by rw [jE hi,hie]) (jE hL)).inl k o n' c' (by assumption) h0
       simp
       omega
   · rw [List.mem_singleton.1 hv]
     intro k o n' c' e h0
     have k1:=hvV k o n' c' e h0
     have k2:=hvin k o n' c' e h0
     refine ⟨by omega,?_⟩
     rcases hat with e|e
     · rw [e]
       intro e2
       have:=(hrb k e2).2
       omega
     · rw [e]
       simp
       omega
 · intro k o n' c' e h0
   obtain ⟨k1,k2⟩:=h.neO k o n' c' e h0
   refine ⟨k1,?_⟩
   rcases hat with e|e
   · rw [e];exact k2
   · rw [e]
     have:=h.ot.inl k o n' c' (by assumption) h0
     simp
     omega
 · have:=hr.1
   simp
   omega
 · intro x hx
   rcases List.mem_append.1 hx with hx|hx
   · exact h.sz.2.1 x hx
   · rw [List.mem_singleton.1 hx];omega
 · rcases hat with e|e
   · rw [e] at hgg;exact .inl hgg
   · rw [e] at hgg
     simp at hgg
     omega
theorem shPut_no {S:Nat} {w w':World} {O:Nat→Prop} {s:ShS} {b:Bytes} (h0:s.full=0) (h1:ShAt S w' O s) (h2:Off O w w'):PuPost (ShAt S) shK w O s b (.returned (.tuple #[.agg #[.int .i64 0,.int .i64 0],.int .i64 7])) w':=by
 have e:shK.put s b=(s,(0,0),7):=by simp only [shK];rw [if_pos h0]
 unfold PuPost
 rw [e]
 exact ⟨O,rfl,h1,h2,fun k e=>.inl e⟩
theorem shPut_yes {S:Nat} {w V V5 W:World} {O:Nat→Prop} {s:ShS} {b:Bytes} {rv rv' ov:Value} {vs:List Value} {f':Int} {nv:Nat} {x:Value} (h0:¬s.full=0) (hf:f'=if 0<s.full then s.full-1 else s.full) (hnv:nv=b.length) (hlen:vs.length=s.L.length) (hof:Off (· =S) w V) (hVs:w.heap.size<V.heap.size)
 (hi:ShIn V5 S rv' (vs ++ [x]) ov {s with L:=s.L ++ [b],full:=f'}) (ho:Off (fun k=>k=S∨rv.ownBlock=some k) V V5) (hrv:∀g,rv'.ownBlock=some g→rv.ownBlock=some g∨V.heap.size≤g) (hx:VIn (fun k=>V.heap.size≤k) x) {V4:World} (_:SlB V4 x b)
 (hW:Off (· =w.heap.size) V5 W) (hS:O S) (h3:∀g,rv.ownBlock=some g→O g) (h4:∀v∈vs,VIn O v) (h5:VIn O ov) (h6:∀k,O k→k<w.heap.size):
 PuPost (ShAt S) shK w O s b (.returned (.tuple #[.agg #[.int .i64 ((vs.length:Int)+1),.int .i64 (13+(nv:Int))],.int .i64 0])) W:=by
 have e:shK.put s b=({s with L:=s.L ++ [b],full:=f'},((vs.length:Int)+1,13+(nv:Int)),0):=by
  simp only [shK]
  rw [if_neg h0,hf,hlen,hnv]
 unfold PuPost
 rw [e]
 have s1:=hof.size
 have s2:=ho.size
 have s3:=hW.size
 have hrl:=World.ownsRow.lt hi.row
 have nS:S≠w.heap.size:=by have:=h6 _ hS;omega
 have hx5:VIn (fun k=>k<V5.heap.size) x:=by
  obtain ⟨i,hi2⟩:∃i,(vs ++ [x])[i]? =some x:=⟨vs.length,by simp⟩
  have hi3:(s.L ++ [b])[i]? ≠none:=by
   intro h
   have h7:=(jS.1 hi2).1
   rw [List.getElem?_eq_none_iff] at h
   simp at h h7
   omega
  obtain ⟨bb,hbb⟩:=Option.ne_none_iff_exists'.1 hi3
  exact (hi.it i x bb hi2 hbb).inl
 have hrO:∀g,rv'.ownBlock=some g→(O g∨(V.heap.size≤g∧g<W.heap.size))∧g≠w.heap.size:=fun g hg=>by
  have h7:=(hrl g hg).2
  rcases hrv g hg with e|e
  · have h8:=h3 g e
    have:=h6 g h8
    exact ⟨.inl h8,by omega⟩
  · exact ⟨.inr ⟨e,by omega⟩,by omega⟩
 have hxO:VIn (fun g=>(O g∨(V.heap.size≤g∧g<W.heap.size))∧g≠w.heap.size) x:=fun k o n c e h0=>by
  have h7:=hx k o n c e h0
  have h8:=hx5 k o n c e h0
  exact ⟨.inr ⟨h7,by omega⟩,by omega⟩
 have hOO:∀g,O g→(O g∨(V.heap.size≤g∧g<W.heap.size))∧g≠w.heap.size:=fun g hg=>⟨.inl hg,by have:=h6 g hg;omega⟩
 have hvO:∀v∈vs ++ [x],VIn (fun g=>(O g∨(V.heap.size≤g∧g<W.heap.size))∧g≠w.heap.size) v:=fun v hv=>by
  rcases List.mem_append.1 hv with hv|hv
  · exact (h4 v hv).mono hOO
  · rw [List.mem_singleton.1 hv];exact hxO
 refine ⟨fun k=>O k∨(V.heap.size≤k∧k<W.heap.size),rfl,⟨rv',vs ++ [x],ov,hi.off hW nS (fun g hg=>(hrO g hg).2) (fun v hv=>(hvO v hv).mono fun b hb=>hb.2) (h5.mono fun b hb=>(hOO b hb).2),.inl hS,fun g hg=>(hrO g hg).1,fun v hv=>(hvO v hv).mono fun b hb=>hb.1,h5.mono fun b hb=>.inl hb,fun k hk=>hk.elim (fun e=>by have:=h6 k e;omega) (fun e=>e.2)⟩,?_,fun k hk=>hk.imp id (fun e=>by omega)⟩
 exact ((hof.mono fun k e=>by rw [e];exact hS).trans (ho.mono fun k e=>e.elim (fun e=>by rw [e];exact hS) (h3 k))).late hW fun i hi e=>by omega
theorem shPut_any {S:Nat} {w:World} {O:Nat→Prop} {s:ShS} {v:Value} {b:Bytes} (h:ShAt S w O s) (hr:shK.Rdy s 1) (hv:SlA w v b) (hbl:b.length≤5000):Calls Tryz.prog 230 #[.pointer (some ⟨S,0,none⟩),v] w (PuPost (ShAt S) shK w O s b):=by
 obtain ⟨rv,vs,ov,h1,h2,h3,h4,h5,h6⟩:=h
 obtain ⟨Av,nv,cv,rfl,hcv,hsv,hav⟩:=hv
 obtain ⟨Ar,cr,hrv⟩:∃Ar cr,rv=.slice Ar vs.length cr:=by
  rcases h1.row.2 with ⟨rfl,h0⟩|⟨g,cap,cur,rfl,_⟩
  · exact ⟨_,_,by rw [h0]⟩
  · exact ⟨_,_,rfl⟩
 have hnv:=hsv.1
 have HI:=hJ h1
 have HS:=hJ h2
 have H3:=hJ h3
 have H4:=hJ h4
 have H5:=hJ h5
 have H6:=hJ h6
 have HSV:=hJ hsv
 have q3:=h1.c3
 have f3:=h1.fr 3
 have lS:=h1.lt
 clear h1 h2 h3 h4 h5 h6 hsv hav
 go_enter Tryz.func230,Tryz.ntmps230
 by_cases h0:s.full=0
 · have hb:(s.full==0)=true:=by simp [h0]
   have H0:=hJ h0
   clear h0
   go_wp2
   have hbx:=(BoxA.new w 149 (0,0)).set (0,0)
   refine bodyPost_ret (results_addr rfl _ _ _ _ _ rfl (Box0.new w _).1.1 (Box0.new w _).1.2) rfl ?_
   have ho:Off O w (w.alloc (.cells #[.int .i64 0,.int .i64 0] 149)):=(Off.refl _ _).alloc _
   exact shPut_no H0.out (ShAt.off ⟨rv,vs,ov,HI.out,HS.out,H3.out,H4.out,H5.out,H6.out⟩ (P:=fun _=>False) ((Off.refl _ _).alloc _) (fun _=>False.elim)) ho
 · have hb:(s.full==0)=false:=by simp [h0]
   have H0:=hJ h0
   obtain ⟨f',hf'⟩:∃f',f'=if 0<s.full then s.full-1 else s.full:=⟨_,rfl⟩
   have HF:=hJ hf'
   clear h0 hf'
   have hfl:=hr.2.2.2
   by_cases hp:0<s.full
   case' pos=>
    have hw1:IntKind.i64.wrap (s.full-1)=s.full-1:=IntWalk.i64_in _ (by omega)
   case' neg=>skip
   all_goals
    go_upto_region 5 with (fail)
    refine wp_forget (fun V=>ShIn V S rv vs ov {s with full:=f'}∧BoxA V w.heap.size (0,0)∧Off (· =S) w V) ?_ ?_
    · first
       |exact ⟨by rw [HF.out,if_neg hp];exact HI.out.up (jB.alloc jN _),BoxA.new w _ (0,0),(Off.refl _ _).alloc _⟩
       |exact ⟨by rw [HF.out,if_pos hp];exact (HI.out.setFull (s.full-1) (by omega)).up (jB.alloc jN _),by have:=BoxA.new (w.setCell ⟨S,3,none⟩ (.int .i64 (s.full-1))) 149 (0,0);rw [show (w.setCell ⟨S,3,none⟩ (.int .i64 (s.full-1))).heap.size=w.heap.size by simp] at this;exact this,((Off.refl (· =S) w).setCell (p:=⟨S,3,none⟩) rfl _).alloc _⟩
    rintro V ⟨hi,hbx,hof⟩
    have HIV:=hJ hi
    have HBX:=hJ hbx
    have HOF:=hJ hof
    have HVS:Hid (SBy V Av nv b):=hJ (by
     have hn0:=HI.out.noBy (v:=.slice Av nv cv) (L:=b) ⟨_,_,_,rfl,hcv,HSV.out⟩
     obtain ⟨A5,n5,c5,e5,_,h5⟩:=SlB.offP (v:=.slice Av nv cv) (L:=b) ⟨_,_,_,rfl,hcv,HSV.out⟩ hof hn0
     cases e5
     exact h5)
    have hvl:vs.length≤2147483647:=by have:=hr.1;have:=hi.len;simp only at this;omega
    have q0:=hi.c0
    have f0:=hi.fr 0
    rw [hrv] at q0
    have lS2:=hi.lt
    have HRV:=hJ hrv
    clear hi hbx hof q3 f3 hrv
    go_region_law (first
     |(refine step_appF (by rfl) _ _ (by rfl) V _ [] b (by rfl) (FrB.lit V).drew _ _ _ (by rfl) (HVS.out.up ((jB.alloc jN _).drew)) (by simp;omega) nv (by simp;omega) ?_;intro A2 c2 w2 hf2;have HF2:=hJ hf2;have q2:=(hf2.bel.cell (p:=⟨S,0,none⟩) lS2).trans q0;have l2:=Nat.lt_of_lt_of_le lS2 hf2.bel.size;clear hf2)
     |(refine step_appR (by rfl) _ _ (by rfl) rv vs w2.heap.size A2 nv c2 (by rw [HRV.out];rfl) (row_off ((HIV.out.up HF2.out.bel).row) (S:=fun _=>False) (Off.of_below (jB.alloc jN _)) (fun _ _=>id)) (by rfl) (by rw [cell_of_row _ _ _ _ _ _ (heap_alloc_new w2 _)];rfl) hvl ?_;intro v4 w4 hrow hg hat ⟨A4,n4,c4,e4⟩;subst e4;have HROW:=hJ hrow;have HGR:=hJ hg;have HAT:=hJ hat;have q5:=((grown_off hg).cell (p:=⟨S,0,none⟩) (by simp;omega) HIV.out.neR).trans ((((Below.refl w2.heap.size w2).alloc jN _).cell (p:=⟨S,0,none⟩) l2).trans q2);have f5:=((grown_off hg).frozen (p:=⟨S,0,none⟩) (by simp;omega) HIV.out.neR).trans ((((Below.refl w2.heap.size w2).alloc jN _).frozen (p:=⟨S,0,none⟩) l2).trans ((HF2.out.bel.frozen (p:=⟨S,0,none⟩) lS2).trans f0));clear hrow hg hat))
    all_goals
     go_upto_region 6 with (fail)
     have hput:=HIV.out.put (rv':=.slice A4 n4 c4) (A:=A2) (n:=nv) (c:=c2) ⟨hr.1,hr.2.1,hr.2.2.1,HIV.out.sz.2.2.2⟩ hbl HF2.out HROW.out HGR.out HAT.out
     have hn4:n4=vs.length+1:=by
      rcases HROW.out.2 with ⟨e,h0⟩|⟨g,cap,cur,e,_⟩
      · simp at h0
      · cases e;simp
     refine wp_forget (fun W=>ShIn W S (.slice A4 n4 c4) (vs ++ [Value.slice A2 nv c2]) ov {s with L:=s.L ++ [b],full:=f'}∧Off (fun k=>k=S∨rv.ownBlock=some k) V W) ⟨hput.1,hput.2.1⟩ ?_
     rintro V5 ⟨hi5,ho5⟩
     have HI5:=hJ hi5
     have HO5:=hJ ho5
     have HPT:=hJ hput.2.2
     have hbx5:=HBX.out.off ho5 (fun e=>e.elim (fun e=>by omega) (fun e=>by have:=(World.ownsRow.lt HIV.out.row _ e).2;have:=H3.out _ e;have:=H6.out _ this;omega))
     have HBX5:=hJ hbx5
     have p0:=hi5.c0
     have b0:=hbx5.1
     have b1:=hbx5.2.1
     have g0:=hbx5.2.2 0
     have g1:=hbx5.2.2 1
     have lS5:=hi5.lt
     have e4:(n4:Int)=(vs.length:Int)+1:=by omega
     clear hput hi5 ho5 hbx5 q0 q2 q5 f0 f5 hn4 HF2 HROW HGR HAT
     go_wp2
     have hfin:=HBX5.out.set ((vs.length:Int)+1,13+(nv:Int))
     refine bodyPost_ret (results_addr rfl _ _ _ _ _ rfl hfin.1.1 hfin.1.2.1) rfl ?_
     exact shPut_yes H0.out HF.out (by rw [←hnv]) HIV.out.len HOF.out HBX.out.lt HI5.out HO5.out HPT.out.1 HPT.out.2.1 HPT.out.2.2 hfin.2 HS.out H3.out H4.out H5.out H6.out
set_option maxRecDepth 100000
set_option maxHeartbeats 4000000
theorem ent_of {P:Program} {f:FuncId} {fn:Func} {c:Code} (hf:P.funcs[f]? =some fn) (hname:(fn.name== "runtime.NumGoroutine")=false) (hb:fn.body=some c) (args:Array Value) (w:World):(callFunc f args).run P w=.ok (.enter f args) w:=by
 have h1:fn.name≠ "runtime.NumGoroutine" :=by simpa using hname
 simp [callFunc,hf,h1,hb,mark]
def shM (S:Nat):Snk shK where
 T:=77
 p:=some ⟨S,0,none⟩
 fg:=229
 fp:=230
 nilG:=fun n w=>by kernel_rfl
 nilP:=fun n w=>by kernel_rfl
 metG:=fun n w=>by kernel_rfl
 metP:=fun n w=>by kernel_rfl
 entG:=ent_of Tryz.func229 (by kernel_rfl) rfl
 entP:=ent_of Tryz.func230 (by kernel_rfl) rfl
 At:=ShAt S
 off:=fun h ho hs=>h.off ho hs
 lt:=fun h hk=>h.lt hk
 get:=fun a h=>shGet_any a h
 put:=fun h hr hv hb=>shPut_any h hr hv hb
def sh0:ShS:=⟨[],-1,[],-1,0⟩
theorem sh0_rdy {n:Nat} (h:n≤2147483647):shK.Rdy sh0 n:=⟨by show 0+n≤_;omega,fun b hb=>(by cases hb),by show 0≤_;omega,by show (-1:Int)<_;omega⟩
def ShNew (w:World) (e:Ending) (w':World):Prop:=e=.returned (.pointer (some ⟨w.heap.size,0,none⟩))∧Below w.heap.size w w'∧w'.heap.size=w.heap.size+1∧ShAt w.heap.size w' (· =w.heap.size) sh0
theorem newShelf_any (w:World):Calls Tryz.prog 58 #[] w (ShNew w):=by
 go_enter Tryz.func58,Tryz.ntmps58
 go_wp2
 go_ret
 refine ⟨rfl,jB.alloc jN _,by simp,?_⟩
 have hc:∀k v,(#[.slice none 0 0,.int .i64 (-1),.slice none 0 0,.int .i64 (-1),.int .i64 0]:Array Value)[k]? =some v→(w.alloc (.cells #[.slice none 0 0,.int .i64 (-1),.slice none 0 0,.int .i64 (-1),.int .i64 0] 181)).cell? ⟨w.heap.size,k,none⟩=some v:=fun k v hv=>by
  rw [cell_of_row _ _ _ _ _ _ (heap_alloc_new w _)];exact hv
 refine ⟨.slice none 0 0,[],.slice none 0 0,⟨hc 0 _ rfl,hc 1 _ rfl,hc 2 _ rfl,hc 3 _ rfl,hc 4 _ rfl,fun k=>?_,⟨rfl,.inl ⟨rfl,rfl⟩⟩,rfl,fun i v b h=>by simp at h,⟨none,0,0,rfl,Nat.le_refl _,SBy.nil _ _⟩,by simp [Value.ownBlock],fun v hv=>(by cases hv),fun b o n c e=>(by cases e),sh0_rdy (by omega),fun k hk=>?_⟩,rfl,fun g hg=>(by cases hg),fun v hv=>(by cases hv),fun b o n c e=>(by cases e),fun k hk=>by rw [hk];simp⟩
 · unfold World.frozen?
   rw [heap_alloc_new]
   simp
 · rw [cell_of_row _ _ _ _ _ _ (heap_alloc_new w _)]
   simp
   omega
set_option maxRecDepth 100000
set_option maxHeartbeats 4000000
open Go.ChangeShapes Go.WideShapes Go.ChangeAt Go.RowKit Go.Joins Go.Deep
theorem own:ownKnob Tryz.prog.godebug=none:=by kernel_rfl
theorem laidOut:laidOutB Tryz.prog=true:=by kernel_rfl
theorem trodAll_below {H:Type} {enc:TypeId×Value→H} {P:Program} {W W':World} (hl:laidOutB P=true) (hb:Below W.heap.size W W'):
 ∀ {ts:List TypeId} {vs:List Value} {ds:List (DataW H)} {ps:List MemPlace},ts.all (fun t=>P.readableRec t && decide (t<P.types.size))=true→
   DataW.TrodAll enc P W 0 (fun _=>true) true ts vs ds ps→DataW.TrodAll enc P W' 0 (fun b=>decide (b<W.heap.size)) true ts vs ds ps
 | [],vs,ds,ps,_,h=>by
   obtain ⟨rfl,rfl,rfl⟩:=trodAll_nil h
   rfl
 | t::ts,vs,ds,ps,hr,h=>by
   obtain ⟨v,vs',d,ds',p,q,rfl,rfl,rfl,h0,r0⟩:=trodAll_cons h
   simp only [List.all_cons,Bool.and_eq_true,decide_eq_true_eq] at hr
   refine trodAll_cons_mk (Below.trod hl hr.1.1 hr.1.2 h0 hb ?_) (trodAll_below hl hb hr.2 r0)
   obtain ⟨m,hm⟩:=h0
   exact DataW.trod_lt m _ _ _ hm
section
variable {H:Type} {enc:TypeId×Value→H} {P:Program} {w:World} {spare:Nat→Bool} {held:Bool}
theorem field_of {e:TypeId} {fs:Array Field} {m:Nat} {cs:List Value} {x:DataW H×List MemPlace} (he:P.underlying e=some (.struct fs)) (hone:oneCellFields P fs=true) (hC:P.cellsOf e=fs.size) (h:DataW.trod enc P w 0 spare held m e cs=some x)
 (j:Nat) (f:Field) (hj:fs[j]? =some f):∃(v:Value) (y:DataW H×List MemPlace) (m':Nat),cs[j]? =some v∧DataW.trod enc P w 0 spare held m' f.type [v]=some y:=by
 obtain ⟨ys,n',_,_,hlen,hyl,hf⟩:=DataW.trod_struct he h
 obtain ⟨ho,hk⟩:=hone_of hone j f hj
 have hjl:j<fs.size:=(Array.getElem?_eq_some_iff.1 hj).1
 have h1:=hf j f hj
 rw [ho,hk] at h1
 have e1:(cs.drop j).take 1=[cs[j]'(by omega)]:=by
  rw [List.drop_eq_getElem_cons (by omega)]
  rfl
 rw [e1] at h1
 exact ⟨_,_,n',jE (by omega),h1.trans (jE (by omega))⟩
end
set_option maxRecDepth 100000
set_option maxHeartbeats 4000000
open Go.RowKit Go.Maps
structure Fr where
 key:Int
 used:Bool
 ref:Bool
 dirty:Bool
 pins:Int
def Fr.val (f:Fr):Value:=.agg #[.int .i64 f.key,.bool f.used,.bool f.ref,.bool f.dirty,.int .i64 f.pins]
def Fr.zero:Fr:=⟨0,false,false,false,0⟩
structure FrAt (w:World) (B i:Nat) (f:Fr):Prop where
 c0:w.cell? ⟨B,i*5,none⟩=some (.int .i64 f.key)
 c1:w.cell? ⟨B,i*5+1,none⟩=some (.bool f.used)
 c2:w.cell? ⟨B,i*5+2,none⟩=some (.bool f.ref)
 c3:w.cell? ⟨B,i*5+3,none⟩=some (.bool f.dirty)
 c4:w.cell? ⟨B,i*5+4,none⟩=some (.int .i64 f.pins)
def nameOf:Value→Option Int
 | .agg ⟨[.int .i64 k]⟩=>some k
 |_=>none
theorem nameOf_inv {v:Value} {k:Int} (h:nameOf v=some k):v=.agg #[.int .i64 k]:=by
 unfold nameOf at h
 split at h
 · cases h;rfl
 · cases h
def keyF (g:Int→Option Nat) (v:Value):Option Value:=(nameOf v).bind fun k=>(g k).map fun (i:Nat)=>.int .i64 i
def upd (g:Int→Option Nat) (k:Int) (x:Option Nat):Int→Option Nat:=fun j=>if j=k then x else g j
theorem keyF_at (g:Int→Option Nat) (k:Int):keyF g (.agg #[.int .i64 k])=(g k).map fun (i:Nat)=>.int .i64 i:=rfl
theorem keyF_put (g:Int→Option Nat) (k:Int) (i:Nat):putK (keyF g) (.agg #[.int .i64 k]) (.int .i64 i)=keyF (upd g k (some i)):=by
 funext v
 unfold putK
 split
 · rename_i h;subst h;simp [keyF,nameOf,upd]
 · rename_i h
   unfold keyF
   cases hn:nameOf v with
   |none=>rfl
   | some j=>
     have:j≠k:=fun e=>h (by rw [nameOf_inv hn,e])
     simp [upd,this]
theorem keyF_del (g:Int→Option Nat) (k:Int):delK (keyF g) (.agg #[.int .i64 k])=keyF (upd g k none):=by
 funext v
 unfold delK
 split
 · rename_i h;subst h;simp [keyF,nameOf,upd]
 · rename_i h
   unfold keyF
   cases hn:nameOf v with
   |none=>rfl
   | some j=>
     have:j≠k:=fun e=>h (by rw [nameOf_inv hn,e])
     simp [upd,this]
theorem nameWide:(match Tryz.prog.underlying 242 with|some (.array _ _)|some (.struct _)=>true|_=>false)=true:=by kernel_rfl
theorem nameKeyed:Keyed Tryz.prog 242:=Keyed.of_law (deep_law_laid laidOut (m:=2) (by omega) (of_decide_eq_true (by kernel_rfl)) (by kernel_rfl) nameWide)
theorem cellsName:Tryz.prog.cellsOf 242=1:=by kernel_rfl
theorem cellsInt:Tryz.prog.cellsOf 3=1:=by kernel_rfl
theorem zeroInt (w:World):(zeroValue 3).run Tryz.prog w=.ok (.int .i64 0) w:=by kernel_rfl
theorem name_key {k:Int} (hk:(Lit.int .i64 k).wf=true):∃l,keyOf Tryz.prog 242 (.agg #[.int .i64 k])=some l:=by
 have hf:(Value.agg #[.int .i64 k]).formed Tryz.prog 242=true:=by
  simp [Value.formed,Tryz.underlying242]
  kernel_rfl
 have hd:DataW.Trod (H:=Unit) (fun _=>()) Tryz.prog default 0 (fun _=>true) true 242 (.agg #[.int .i64 k]) (.agg [.lit (.int .i64 k)]) []:=
  ⟨2,by simp [DataW.trod,Value.cells,Tryz.underlying242,Tryz.underlying3,hk,cellsName,cellsInt]⟩
 exact ⟨_,(keyOf_asKey (by kernel_rfl) nameWide hf hd).1⟩
structure PoolAt (w:World) (P B M n:Nat) (F:Nat→Fr) (h:Nat) (g:Int→Option Nat) (c:Nat):Prop where
 l0:w.cell? ⟨P,0,none⟩=some (.slice (some ⟨B,0,none⟩) n n)
 l1:w.cell? ⟨P,1,none⟩=some (.map (some M))
 l2:w.cell? ⟨P,2,none⟩=some (.int .i64 h)
 lz:∀i,w.frozen? ⟨P,i,none⟩=false
 fr:∀i,i<n→FrAt w B i (F i)
 fz:∀j,w.frozen? ⟨B,j,none⟩=false
 mp:MapIs Tryz.prog 242 w M (keyF g) c
 ne:P≠B
 pos:0<n
 most:n≤4096
 hand:h<n
 kw:∀i,i<n→(Lit.int .i64 (F i).key).wf=true
def findI (g:Int→Option Nat) (key:Int):Int:=match g key with|some i=>i|none=>0
theorem PoolAt.look {w:World} {P B M n:Nat} {F:Nat→Fr} {h:Nat} {g:Int→Option Nat} {c:Nat} (p:PoolAt w P B M n F h g c) {key:Int} (hk:(Lit.int .i64 key).wf=true):
 (Instr.lookup 218 (.map (some M)) (.agg #[.int .i64 key]) true).run Tryz.prog w=.ok (.tuple #[.int .i64 (findI g key),.bool (g key).isSome]) w:=by
 obtain ⟨l,hl⟩:=name_key hk
 rw [p.mp.look nameKeyed Tryz.underlying218 (zeroInt w) hl true,keyF_at]
 cases hg:g key<;>simp [findI,hg]
def findV (g:Int→Option Nat) (key:Int):Value:=.tuple #[.int .i64 (findI g key),.bool (g key).isSome]
theorem Find_any {w:World} {P B M n:Nat} {F:Nat→Fr} {h:Nat} {g:Int→Option Nat} {c:Nat} (p:PoolAt w P B M n F h g c) {key:Int} (hk:(Lit.int .i64 key).wf=true):
 Calls Tryz.prog 107 #[.pointer (some ⟨P,0,none⟩),.int .i64 key] w fun e w'=>e=.returned (findV g key)∧w=w':=by
 have hl:=p.look hk
 have l1:=p.l1
 go_enter Tryz.func107,Tryz.ntmps107
 go_wp2
 go_ret2
 exact ⟨rfl,rfl⟩
theorem notUsed_any (f:Fr) (w:World):
 Calls Tryz.prog 160 #[.agg #[.int .i64 f.key,.bool f.used,.bool f.ref,.bool f.dirty,.int .i64 f.pins]] w fun e w'=>e=.returned (.bool (!f.used))∧Below w.heap.size w w':=by
 go_enter Tryz.func160,Tryz.ntmps160
 go_wp2
 all_goals
  go_ret
  exact ⟨rfl,by go_grown⟩
theorem noPins_any (f:Fr) (w:World):
 Calls Tryz.prog 162 #[.agg #[.int .i64 f.key,.bool f.used,.bool f.ref,.bool f.dirty,.int .i64 f.pins]] w fun e w'=>e=.returned (.bool (f.pins==0))∧Below w.heap.size w w':=by
 go_enter Tryz.func162,Tryz.ntmps162
 go_wp2
 all_goals
  go_ret
  exact ⟨rfl,by go_grown⟩
def firstFrom (q:Nat→Bool) (n:Nat):Nat→Nat→Int
 |0,_=> -1
 |d+1,k=>if k<n then (if q k then (k:Int) else firstFrom q n d (k+1)) else -1
def first (q:Nat→Bool) (n:Nat):Int:=firstFrom q n n 0
theorem firstFrom_spec (q:Nat→Bool) (n:Nat):∀d k,n≤d+k→(firstFrom q n d k= -1∧∀i,k≤i→i<n→q i=false)∨(∃j:Nat,firstFrom q n d k=j∧k≤j∧j<n∧q j=true∧∀i,k≤i→i<j→q i=false)
 |0,k,h=>.inl ⟨rfl,fun i h1 h2=>by omega⟩
 | d + 1,k,h=>by
   unfold firstFrom
   by_cases hk:k<n
   · rw [if_pos hk]
     cases hq:q k
     · simp only [Bool.false_eq_true,if_false]
       rcases firstFrom_spec q n d (k+1) (by omega) with ⟨h1,h2⟩|⟨j,h1,h2,h3,h4,h5⟩
       · refine .inl ⟨h1,fun i hi hn=>?_⟩
         rcases Nat.lt_or_ge k i with hl|hl
         · exact h2 i (by omega) hn
         · have:i=k:=by omega
           subst this;exact hq
       · refine .inr ⟨j,h1,by omega,h3,h4,fun i hi hj=>?_⟩
         rcases Nat.lt_or_ge k i with hl|hl
         · exact h5 i (by omega) hj
         · have:i=k:=by omega
           subst this;exact hq
     · simp only [if_true]
       exact .inr ⟨k,rfl,Nat.le_refl _,hk,hq,fun i h1 h2=>by omega⟩
   · rw [if_neg hk]
     exact .inl ⟨rfl,fun i h1 h2=>by omega⟩
theorem first_spec (q:Nat→Bool) (n:Nat):(first q n= -1∧∀i,i<n→q i=false)∨(∃j:Nat,first q n=j∧j<n∧q j=true∧∀i,i<j→q i=false):=by
 rcases firstFrom_spec q n n 0 (by omega) with ⟨h1,h2⟩|⟨j,h1,_,h3,h4,h5⟩
 · exact .inl ⟨h1,fun i hi=>h2 i (by omega) hi⟩
 · exact .inr ⟨j,h1,h3,h4,fun i hi=>h5 i (by omega) hi⟩
theorem first_is {q:Nat→Bool} {n j:Nat} (hj:j<n) (hq:q j=true) (hb:∀i,i<j→q i=false):first q n=j:=by
 rcases first_spec q n with ⟨h1,h2⟩|⟨j',h1,h2,h3,h4⟩
 · rw [h2 j hj] at hq;cases hq
 · rcases Nat.lt_trichotomy j j' with h|h|h
   · rw [h4 j h] at hq;cases hq
   · rw [h1,h]
   · rw [hb j' h] at h3;cases h3
theorem first_none {q:Nat→Bool} {n:Nat} (h:∀i,i<n→q i=false):first q n= -1:=by
 rcases first_spec q n with ⟨h1,h2⟩|⟨j',h1,h2,h3,h4⟩
 · exact h1
 · rw [h j' h2] at h3;cases h3
def FrS (w:World) (B n:Nat) (F:Nat→Fr):Prop:=∀i,i<n→FrAt w B i (F i)
theorem FrAt.up {w w':World} {B i:Nat} {f:Fr} (h:FrAt w B i f) (hb:Below w.heap.size w w'):FrAt w' B i f:=
 have hl:=lt_of_cell h.c0
 ⟨(hb.cell hl).trans h.c0,(hb.cell hl).trans h.c1,(hb.cell hl).trans h.c2,(hb.cell hl).trans h.c3,(hb.cell hl).trans h.c4⟩
theorem IndexFunc_any (fn:Nat) (q:Fr→Bool) (hcf:∀(v:Value) (w:World),(callFunc fn #[v]).run Tryz.prog w=.ok (.enter fn #[v]) w) (hf:∀(f:Fr) (w:World),Calls Tryz.prog fn #[.agg #[.int .i64 f.key,.bool f.used,.bool f.ref,.bool f.dirty,.int .i64 f.pins]] w fun e w'=>e=.returned (.bool (q f))∧Below w.heap.size w w')
 (w:World) (B n:Nat) (F:Nat→Fr) (hn:n≤4096) (hF:FrS w B n F):
 Calls Tryz.prog 159 #[.slice (some ⟨B,0,none⟩) n n,.func (.func fn) #[] #[]] w fun e w'=>e=.returned (.int .i64 (first (fun i=>q (F i)) n))∧Below w.heap.size w w':=by
 have HH:=hJ hf
 have HF:=hJ hF
 clear hf hF
 go_enter Tryz.func159,Tryz.ntmps159
 go_wp2
 go_loopw [8] (fun i wr=>∃k:Nat,k≤n∧i=.int .i64 k∧(∀j,j<k→q (F j)=false)∧Below w.heap.size w wr) (fun i _=>n-(intOf i).toNat)
 case atStart=>exact ⟨0,Nat.zero_le _,rfl,fun j h=>by omega,Below.refl _ _⟩
 case round=>
  obtain ⟨k,hk,rfl,hno,hb⟩:=hrel
  by_cases hlt:k<n
  · obtain ⟨c0,c1,c2,c3,c4⟩:=(show FrAt wr B k (F k) from by
     have h:=HF.out k hlt
     have hl:=lt_of_cell h.c0
     exact ⟨(hb.cell hl).trans h.c0,(hb.cell hl).trans h.c1,(hb.cell hl).trans h.c2,(hb.cell hl).trans h.c3,(hb.cell hl).trans h.c4⟩)
    have HN:=hJ hno
    have HB:=hJ hb
    clear hno hb
    go_wp2_with fail
    refine (HH.out (F k) _).mono ?_
    rintro e w1 ⟨rfl,hb1⟩
    have HB1:=hJ (below_upto HB.out hb1 jN)
    clear hb1
    cases hq:q (F k)
    · go_wp2
      go_roundw
      case rel=>
       refine ⟨k+1,by omega,by go_num,fun j hj=>?_,HB1.out⟩
       rcases Nat.lt_or_ge j k with h|h
       · exact HN.out j h
       · have:j=k:=by omega
         subst this;exact hq
      case measure=>simp [intOf];omega
    · go_wp2
      go_ret
      exact ⟨by rw [first_is (q:=fun i=>q (F i)) hlt hq HN.out];rfl,HB1.out⟩
  · go_wp2
    go_ret
    exact ⟨by rw [first_none (q:=fun i=>q (F i)) (fun i hi=>hno i (by omega))];rfl,hb⟩
theorem cf1 (v:Value) (w:World):(callFunc 160 #[v]).run Tryz.prog w=.ok (.enter 160 #[v]) w:=by kernel_rfl
theorem cf2 (v:Value) (w:World):(callFunc 162 #[v]).run Tryz.prog w=.ok (.enter 162 #[v]) w:=by kernel_rfl
theorem ContainsFunc_any (fn:Nat) (q:Fr→Bool) (hcf:∀(v:Value) (w:World),(callFunc fn #[v]).run Tryz.prog w=.ok (.enter fn #[v]) w) (hf:∀(f:Fr) (w:World),Calls Tryz.prog fn #[.agg #[.int .i64 f.key,.bool f.used,.bool f.ref,.bool f.dirty,.int .i64 f.pins]] w fun e w'=>e=.returned (.bool (q f))∧Below w.heap.size w w')
 (w:World) (B n:Nat) (F:Nat→Fr) (hn:n≤4096) (hF:FrS w B n F):
 Calls Tryz.prog 161 #[.slice (some ⟨B,0,none⟩) n n,.func (.func fn) #[] #[]] w fun e w'=>e=.returned (.bool (decide (0≤first (fun i=>q (F i)) n)))∧Below w.heap.size w w':=by
 have HC:=hJ (IndexFunc_any fn q hcf hf w B n F hn hF)
 clear hcf hf hF
 go_enter Tryz.func161,Tryz.ntmps161
 go_wp2_with fail
 refine HC.out.mono ?_
 rintro e w1 ⟨rfl,hb1⟩
 go_wp2
 all_goals
  go_ret
  exact ⟨rfl,hb1⟩
end Go.Proofs.YtlhfjaagkgengaaGreat
