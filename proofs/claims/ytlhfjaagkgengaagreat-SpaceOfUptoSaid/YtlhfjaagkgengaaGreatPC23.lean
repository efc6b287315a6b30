/- slices.Collect of a map's keys. slices.Sorted of a map's keys. A space: Slots, Weight, Regions. A range over a map that deletes what it was told already. -/
import Derived.Test.YtlhfjaagkgengaaGreatPC22
import Derived.Test.YtlhfjaagkgengaaGreatPC02
import Derived.Test.YtlhfjaagkgengaaGreatPC21
import Derived.Test.YtlhfjaagkgengaaGreatPC19
import Derived.Sort.Grow
import Derived.Ground.NamesProg
import Derived.Shelf.Lay
import Derived.Shelf.Sort.Plain
import Derived.Shelf.Slices.In.SortNone
namespace Go.Proofs.YtlhfjaagkgengaaGreat
set_option maxRecDepth 100000
set_option maxHeartbeats 4000000
open Go.RowKit Go.Maps
set_option linter.unusedVariables false
set_option linter.unusedSimpArgs false
@[simp,go_sem] theorem semAtJ_assign (l:Nat) (ρ:Operand→Value) x d ty po af gd:Oper.semAt (some l) ρ {dst:=d,op:=.assign x,type:=ty,pos:=po,after:=af,guard:=gd}=execOp ρ {dst:=d,op:=.assign x,type:=ty,pos:=po,after:=af,guard:=gd}:=Oper.semAt_some l _ _ (fun c h=>by cases h)
@[simp,go_sem] theorem semAtJ_load (l:Nat) (ρ:Operand→Value) t1 x d ty po af gd:Oper.semAt (some l) ρ {dst:=d,op:=.load t1 x,type:=ty,pos:=po,after:=af,guard:=gd}=execOp ρ {dst:=d,op:=.load t1 x,type:=ty,pos:=po,after:=af,guard:=gd}:=Oper.semAt_some l _ _ (fun c h=>by cases h)
@[simp,go_sem] theorem semAtJ_store (l:Nat) (ρ:Operand→Value) t1 x y d ty po af gd:Oper.semAt (some l) ρ {dst:=d,op:=.store t1 x y,type:=ty,pos:=po,after:=af,guard:=gd}=execOp ρ {dst:=d,op:=.store t1 x y,type:=ty,pos:=po,after:=af,guard:=gd}:=Oper.semAt_some l _ _ (fun c h=>by cases h)
@[simp,go_sem] theorem semAtJ_bslice (l:Nat) (ρ:Operand→Value) t1 n els d ty po af gd:Oper.semAt (some l) ρ {dst:=d,op:=.buildSlice t1 n els,type:=ty,pos:=po,after:=af,guard:=gd}=execOp ρ {dst:=d,op:=.buildSlice t1 n els,type:=ty,pos:=po,after:=af,guard:=gd}:=Oper.semAt_some l _ _ (fun c h=>by cases h)
def ivJ (i:Int):Value:=.int .i64 i
def OwJ (B:Nat) (w:World) (v:Value) (L:List Int):Prop:=w.ownsRow B 3 1 v L.length (L.map ivJ)
section
variable {B:Nat} {w:World} {v:Value} {L:List Int}
theorem OwJ.lt (h:OwJ B w v L):∀k,v.ownBlock=some k→B≤k∧k<w.heap.size:=World.ownsRow.lt h
theorem OwJ.off (h:OwJ B w v L) {S:Nat→Prop} {w':World} (ho:Off S w w') (hs:∀k,v.ownBlock=some k→¬S k):OwJ B w' v L:=by
 refine ⟨h.1,?_⟩
 rcases h.2 with hn|⟨g,cap,cur,rfl,hb,hgg,rest⟩
 · exact .inl hn
 · refine .inr ⟨g,cap,cur,rfl,hb,?_,rest⟩
   rw [ho.block g (Array.getElem?_eq_some_iff.1 hgg).1 (hs g rfl)]
   exact hgg
theorem OwJ.empty (B:Nat) (w:World):OwJ B w (.slice none 0 0) []:=World.ownsRow_nil _ _ _ _
theorem OwJ.form (h:OwJ B w v L):∃A c,v=.slice A L.length c∧L.length≤c∧(A=none→L=[])∧∀g o,A=some ⟨g,o,none⟩→o=0∧v.ownBlock=some g:=by
 rcases h.2 with ⟨rfl,h0⟩|⟨g,cap,cur,rfl,hb,hg,h1,h2,h3,h4⟩
 · have:L=[]:=by simpa using h0
   subst this
   exact ⟨none,0,rfl,by simp,fun _=>rfl,fun g o e=>by cases e⟩
 · exact ⟨some ⟨g,0,none⟩,cap,rfl,h1,(fun e=>by cases e),fun g' o e=>by cases e;exact ⟨rfl,rfl⟩⟩
theorem OwJ.cell (h:OwJ B w v L) {g:Nat} (hg:v.ownBlock=some g) {j:Nat} {x:Int} (hx:L[j]? =some x):w.cell? ⟨g,j,none⟩=some (.int .i64 x):=by
 have:=World.ownsRow.cells h (g:=g) hg j (ivJ x) (by rw [List.getElem?_map,hx];rfl)
 rw [show (⟨g,0,none⟩:Addr).add j=⟨g,j,none⟩ by unfold Addr.add;split<;>simp_all] at this
 exact this
end
theorem int_infoJ:(Tryz.prog.info? 3).map (fun i=>(i.zero,i.size,i.bytes))=some (some (.int .i64 0),1,8):=by kernel_rfl
theorem run_appJ {B:Nat} {w:World} {v:Value} {L:List Int} {g:Nat} {i:Int} (hown:OwJ B w v L) (hc:w.cell? ⟨g,0,none⟩=some (ivJ i)) (hB:B≤w.heap.size) (hlen:L.length≤1048576) (ty:TypeId):
 ∃v' w',(Builtin.append_ #[25,25] ty #[v,.slice (some ⟨g,0,none⟩) 1 1]).run Tryz.prog w=.ok v' w'∧OwJ B w' v' (L ++ [i])∧w.grownBy w' v.ownBlock∧(v'.ownBlock=v.ownBlock∨v'.ownBlock=some w.heap.size):=by
 obtain ⟨i0,hi,hz0,hz1,hz2⟩:=info_parts int_infoJ
 obtain ⟨v',w',hr,ho,hg,_,hat⟩:=run_append_own_at (P:=Tryz.prog) w B 25 ty 3 i0 (.int .i64 0) 1 8 Tryz.underlying25 hi hz0 hz1 hz2 rfl (by omega) v L.length (L.map ivJ) hown ⟨g,0,none⟩ 1 1 [ivJ i]
  rfl (fun j u hj=>by
   have:j=0:=by
    rcases Nat.eq_zero_or_pos j with h|h
    · exact h
    · rw [List.getElem?_eq_none (by simp;omega)] at hj;cases hj
   subst this
   simp at hj
   rw [show (⟨g,0,none⟩:Addr).add 0=⟨g,0,none⟩ by simp [Addr.add],hc,hj]) (fun u hu=>by
   simp only [List.mem_singleton] at hu
   subst hu
   simp [ivJ,Value.oneCell']) (by unfold maxLen;omega) (by omega) hB
 refine ⟨v',w',hr,?_,hg,hat⟩
 unfold OwJ
 rw [List.length_append,List.map_append]
 exact ho
theorem wpListIn_append_runJ {F:Fence} {n:Nat} {P:Program} {ops:Array Oper} {rest:List Oper} {o:Oper} {a:Act} {w w':World} {Q:Exit→Act→World→Prop} (hgd:o.guard=none) (s x:Operand) (t:TypeId) (ho:o.op=.call {callee:=.builtin .append,args:=#[s,x],argTypes:=#[t,t]})
 (v xv:Value) (hs:a.eval s=v) (hx:a.eval x=xv) {v':Value} (hr:(Builtin.append_ #[t,t] o.type #[v,xv]).run P w=.ok v' w') (h:wpListIn F n P ops Q rest (a.put o.dst v') w'):wpListIn F n P ops Q (o::rest) a w:=by
 refine wpListIn_plain hgd fun K hK=>?_
 unfold Oper.wpIn
 refine ⟨?_,?_⟩
 · simp [Oper.about,ho,resolve,Target.leads,Sem.run_pure]
 · rw [Oper.semAt_plain F _ _ (by rw [ho];intro c hc';cases hc')]
   simp [execOp,ho,resolve,invoke,builtin,hs,hx,hr,Result.andThen]
   exact hK _ _ h
structure BxJ (B0 B:Nat) (w:World) (L:List Int) (A:Option Addr) (c:Nat):Prop where
 box:w.cell? ⟨B,0,none⟩=some (.slice A L.length c)
 fz:w.frozen? ⟨B,0,none⟩=false
 row:OwJ B0 w (.slice A L.length c) L
 le:B0≤w.heap.size
 nB:(Value.slice A L.length c).ownBlock≠some B
def bxO (B:Nat) (A:Option Addr) (n c:Nat):Nat→Prop:=fun k=>k=B∨(Value.slice A n c).ownBlock=some k
section
variable {B0 B c:Nat} {w w':World} {L:List Int} {A:Option Addr} {S:Nat→Prop}
theorem BxJ.off (h:BxJ B0 B w L A c) (ho:Off S w w') (hs:∀k,S k→¬bxO B A L.length c k):BxJ B0 B w' L A c:=
 ⟨(ho.cell (p:=⟨B,0,none⟩) (lt_of_cell h.box) (fun e=>hs B e (.inl rfl))).trans h.box,(ho.frozen (p:=⟨B,0,none⟩) (lt_of_cell h.box) (fun e=>hs B e (.inl rfl))).trans h.fz,
  h.row.off ho (fun k e e2=>hs k e2 (.inr e)),Nat.le_trans h.le ho.size,h.nB⟩
theorem BxJ.lt (h:BxJ B0 B w L A c) {k:Nat} (hk:bxO B A L.length c k):k<w.heap.size:=by
 rcases hk with e|e
 · rw [e];exact lt_of_cell h.box
 · exact (h.row.lt k e).2
theorem BxJ.next {wa:World} {x:Int} {g:Nat} (h:BxJ B0 B w L A c) (hb:Below w.heap.size w wa) (c0:wa.cell? ⟨g,0,none⟩=some (.int .i64 x)) (hlen:L.length≤1048576) (ty:TypeId):
 ∃ A' c' w',(Builtin.append_ #[25,25] ty #[.slice A L.length c,.slice (some ⟨g,0,none⟩) 1 1]).run Tryz.prog wa=.ok (.slice A' (L.length+1) c') w'∧w'.cell? ⟨B,0,none⟩=some (.slice A L.length c)∧
   BxJ B0 B (w'.setCell ⟨B,0,none⟩ (.slice A' (L.length+1) c')) (L ++ [x]) A' c'∧Off (bxO B A L.length c) w (w'.setCell ⟨B,0,none⟩ (.slice A' (L.length+1) c'))∧∀k,bxO B A' (L.length+1) c' k→bxO B A L.length c k∨w.heap.size≤k:=by
 have ha:=h.off (S:=fun _=>False) (Off.of_below hb) (fun _=>False.elim)
 have hsz:=hb.size
 obtain ⟨v',w',hr,ho,hg,hat⟩:=run_appJ ha.row c0 ha.le hlen ty
 obtain ⟨A',c',rfl,_⟩:=ho.form
 have hl:(L ++ [x]).length=L.length+1:=by simp
 rw [hl] at hr ho hat
 have hof:Off (fun k=>(Value.slice A L.length c).ownBlock=some k) wa w':=grown_off hg
 have hBw:=lt_of_cell h.box
 have hbox:w'.cell? ⟨B,0,none⟩=some (.slice A L.length c):=(hof.cell (p:=⟨B,0,none⟩) (lt_of_cell ha.box) (fun e=>h.nB e)).trans ha.box
 have hfz:w'.frozen? ⟨B,0,none⟩=false:=(hof.frozen (p:=⟨B,0,none⟩) (lt_of_cell ha.box) (fun e=>h.nB e)).trans ha.fz
 have hos:Off (· =B) w' (w'.setCell ⟨B,0,none⟩ (.slice A' (L.length+1) c')):=(Off.refl (· =B) w').setCell (p:=⟨B,0,none⟩) rfl _
 have hnB:(Value.slice A' (L.length+1) c').ownBlock≠some B:=by
  rcases hat with e|e
  · rw [e];exact h.nB
  · rw [e];intro e2;injection e2 with e2;omega
 refine ⟨A',c',w',hr,hbox,⟨by rw [hl];exact World.cell?_setCell_same _ _ _ hbox,by rw [World.frozen?_setCell];exact hfz,by rw [hl];exact ho.off hos (fun k e e2=>hnB (by rw [←e2];exact e)),Nat.le_trans ha.le (Nat.le_trans hof.size hos.size),by rw [hl];exact hnB⟩,
  (((Off.of_below hb).mono (fun _=>False.elim)).trans (hof.mono fun k e=>.inr e)).trans (hos.mono fun k e=>.inl e),fun k e=>?_⟩
 rcases e with e|e
 · exact .inl (.inl e)
 · rcases hat with e2|e2
   · rw [e2] at e;exact .inl (.inr e)
   · rw [e2] at e;injection e with e;exact .inr (by omega)
end
def fCoJ (a:List Int) (e:Int):List Int×Bool:=(a ++ [e],true)
def bxInv (B0 B:Nat) (w:World) (O1:Nat→Prop) (a:List Int):Prop:=∃A c,BxJ B0 B w a A c∧∀k,O1 k ↔ bxO B A a.length c k
theorem foldJ (xs a:List Int):xs.foldl (fun a k=>(fCoJ a k).1) a=a ++ xs:=by
 induction xs generalizing a with
 |nil=>simp
 |cons x xs ih=>rw [List.foldl_cons,ih];simp [fCoJ]
theorem leaves_endJ {P:Program} {fn:Func} {tmps:Array Value} {R:Ending→World→Prop} {F:Fence} {m D:Nat} {v:Value} {w:World} (hK:w.heap[D]? =some (.deferred (some []))) (hr:(results fn tmps).run P (w.putObj D (.deferred none))=.ok v (w.putObj D (.deferred none))) (hR:R (.returned v) (w.putObj D (.deferred none))):
 LeavesInM F m P fn tmps R [{target:=.collected D,args:=#[]}] .returning w:=
 ⟨by simp,.inl ⟨D,_,rfl,run_takeDeferred hK,⟨v,hr,hR⟩⟩⟩
theorem results_tmpJ {fn:Func} {p:Tmp} (h:fn.results=#[.tmp p]) (tmps:Array Value) (w:World) {v:Value} (hp:tmps.getD p undef=v):(results fn tmps).run Tryz.prog w=.ok v w:=by
 have hp2:tmps[p]?.getD undef=v:=by rw [←hp];simp [Array.getD_eq_getD_getElem?]
 simp [results,h,hp2,Result.andThen]
def KsPost (w:World) (f:Value→Option Value) (n:Nat) (e:Ending) (w':World):Prop:=
 ∃A c xs,KsOf f n xs∧e=.returned (.slice A n c)∧OwJ w.heap.size w' (.slice A n c) xs∧Below w.heap.size w w'
theorem appSeqI_any {w:World} {b Mm n:Nat} {f:Value→Option Value} (c0:w.cell? ⟨b,0,none⟩=some (.map (some Mm))) (hm:MapIs Tryz.prog 3 w Mm f n) (hk:∀key v,f key=some v→∃k,key=.int .i64 k) (hn:n≤1000000):
 Calls Tryz.prog 148 #[.slice none 0 0,.func (.func 111) #[] #[.pointer (some ⟨b,0,none⟩)]] w (KsPost w f n):=by
 have l0:=lt_of_cell c0
 have C0:=hJ c0
 have HM:=hJ hm
 have HK:=hJ hk
 have hMl:=hm.lt
 clear c0 hm hk
 refine (callsIn_wide (n:=9)).1 ?_
 refine callsIn_of_wp_marks Tryz.func148 rfl trivial ?_ rfl
 simp only [Tryz.ntmps148,List.size_toArray,List.length_cons,List.length_nil,Nat.reduceAdd,Nat.reduceSub,Array.replicate_succ,Array.replicate_zero,List.push_toArray,List.append_toArray,List.nil_append,List.cons_append]
 refine wpIn_wide.2 ?_
 go_wp2_with fail
 have hb0:Below w.heap.size w (w.alloc (.cells #[.slice none 0 0] 25)):=(Below.refl w.heap.size w).alloc jN _
 have k2:=alloc_at w (.slice none 0 0) 25
 have hs0:(w.alloc (.cells #[.slice none 0 0] 25)).heap.size=w.heap.size+1:=by simp
 refine wp_forget (fun W=>Below w.heap.size w W∧(W.cell? ⟨w.heap.size,0,none⟩=some (.slice none 0 0)∧W.frozen? ⟨w.heap.size,0,none⟩=false)∧W.heap.size=w.heap.size+1) ⟨hb0,k2,hs0⟩ ?_
 clear hb0 k2 hs0
 rintro W0 ⟨hb0,⟨k2,f2⟩,hs0⟩
 obtain ⟨B,hB⟩:∃B,w.heap.size=B:=⟨_,rfl⟩
 have hiv0:bxInv B B W0 (fun k=>k=B) []:=by
  refine ⟨none,0,⟨by rw [←hB];exact k2,by rw [←hB];exact f2,OwJ.empty _ _,by omega,by simp [Value.ownBlock]⟩,fun k=>?_⟩
  unfold bxO
  simp [Value.ownBlock]
 have HIV:=hJ hiv0
 have HB0:=hJ hb0
 clear hiv0 hb0 k2 f2
 refine (wpIn_wide (n:=9)).1 ?_
 refine range_gen (F:=111) (OS:=fun _=>False) (Ov:=fun k=>k=B) rfl (ent_fn Tryz.func111 (by kernel_rfl) rfl) fCoJ (fun _=>true) argI ownI (fun _ _ _=>rfl) (fun a n=>a.length+n≤1000000) (fun a n m h hm=>by omega) (fun a e n h=>by simp only [fCoJ,List.length_append,List.length_cons,List.length_nil];omega)
  (fun {W O e vs} h=>by rw [h];rfl) (fun {W O e vs k} h hk=>hk.elim) (fun {S O O1 W W' e vs} h ho hs h1=>h)
  (bxInv B B) (fun _ _ _ _=>False) (fun {S O W W' x} h ho hs=>by
   obtain ⟨A,c,hi,hO⟩:=h
   exact ⟨A,c,hi.off ho (fun k hk e2=>hs k hk ((hO k).2 e2)),hO⟩) (fun {O W x k} h hk=>by
   obtain ⟨A,c,hi,hO⟩:=h
   exact hi.lt ((hO k).1 hk)) (fun {c S O W W' x} h _ _=>h) (fun {c O W x k} h _=>h.elim)
  [] n (by simp;exact hn) rfl HIV.out (fun k hk=>hk.elim)
  (fun y W=>KsOf f n y) (fun {y W W'} h hw ho=>h) ?round ?seq ?fin
 case seq=>
  intro Y W1 O1 hb1 hiv hrd hO1
  have hbb:Below w.heap.size w W1:=HB0.out.trans (hb1.mono (by omega))
  have hd:=keys1_any Y (fun _ _=>rfl) hiv hrd ((hbb.cell (p:=⟨b,0,none⟩) l0).trans C0.out) (HM.out.off (S:=fun _=>False) (Off.of_below hbb) id) HK.out ⟨fun e=>by rcases hO1 b e with e2|e2<;>omega,fun e=>by rcases hO1 Mm e with e2|e2<;>omega⟩
  refine hd.mono ?_
  rintro e W2 ⟨y,O2,hv,hi2,⟨xs,hks,rfl⟩,ho2,hO2⟩
  rw [foldJ,List.nil_append] at hi2
  exact ⟨xs,O2,hv,hi2,hks,ho2.mono fun k e=>.inr e,hO2⟩
 case round=>
  intro l x e vs W O1 hO1 hl hnl _ hrd ha
  cases ha
  gi_wp2
  refine ⟨Below.refl _ _,fun W2 ho hiv _=>?_⟩
  obtain ⟨A,c,hI,hO⟩:=hiv
  have cB:=hI.box
  have fB:=hI.fz
  have lB:=lt_of_cell cB
  have hwn:Below W2.heap.size W2 (W2.alloc (.cells #[.int .i64 e] 3)):=(Below.refl W2.heap.size W2).alloc jN _
  obtain ⟨A',c',w',hr1,hcB,hn2,ho2,hg2⟩:=hI.next (x:=e) (g:=W2.heap.size) hwn (alloc_at W2 (.int .i64 e) 3).1 (by omega) 25
  have hfB:w'.frozen? ⟨B,0,none⟩=false:=by have:=hn2.fz;rwa [World.frozen?_setCell] at this
  have lB':=lt_of_cell hcB
  have HN:=hJ hn2
  have HO2:=hJ ho2
  have HG2:=hJ hg2
  have HO:=hJ hO
  have hsz2:=ho.size
  clear hn2 ho2 hg2 hO hI ho hO1 hrd hwn
  gi_wp2_with (gi_at_builtin;go_must (refine wpListIn_append_runJ rfl (.tmp 8) (.tmp 10) 25 rfl _ _ rfl rfl hr1 ?_))
  refine ⟨rfl,bxO B A' (x ++ [e]).length c',⟨A',c',HN.out,fun k=>Iff.rfl⟩,HO2.out.mono fun k e=>.inl ((HO.out k).2 e),fun k e2=>?_⟩
  rw [List.length_append,List.length_singleton] at e2
  rcases HG2.out k e2 with e2|e2
  · exact .inl ((HO.out k).2 e2)
  · exact .inr (.inr (by omega))
 case fin=>
  intro D W4 O1 y hD hdf hrs hof hO1 hOD
  refine ⟨fun _ hiv=>?_,fun hal=>by cases hal⟩
  obtain ⟨A,c,hi,hO⟩:=hiv
  have cB:=hi.box
  have lB:=lt_of_cell cB
  have HI:=hJ hi
  have HKS:=hJ hrs
  have HDF:=hJ hdf
  have HOF:Hid (Below w.heap.size w W4):=hJ ((((Off.of_below HB0.out).mono (fun _=>False.elim)).late hof fun i hl e=>e.elim id (fun e=>by omega)).below (S:=fun _=>False) (fun _=>False.elim) jN)
  have HO:=hJ hO
  have HO1:=hJ hO1
  clear hi hrs hdf hof hO hO1
  go_wp2
  have oD:=off_putObj W4 (l:=D) (.deferred none)
  have hlen:=HKS.out.len
  have hrow:=HI.out.row
  rw [hlen] at hrow
  refine leaves_endJ HDF.out (results_tmpJ rfl _ _ rfl) ⟨A,c,y,HKS.out,by rw [hlen];rfl,?_,HOF.out.trans (oD.below (fun k e=>by rw [e];omega) HOF.out.size)⟩
  rw [hB]
  exact hrow.off oD (fun k e e2=>by
   subst e2
   exact hOD ((HO.out k).2 (.inr (by rw [hlen];exact e))))
end Go.Proofs.YtlhfjaagkgengaaGreat
namespace Go.Proofs
open Go.Shelf
shelf_lay Lays.n189 Nm 189 at Tryz as Tryz.sortJ
end Go.Proofs
namespace Go.Proofs.YtlhfjaagkgengaaGreat
set_option maxRecDepth 100000
set_option maxHeartbeats 4000000
open Go.RowKit Go.Maps Go.Shelf Go.Sort
set_option linter.unusedVariables false
set_option linter.unusedSimpArgs false
structure JAt (w:World) (A:Option Addr) (L:List Int):Prop where
 at_:0<L.length→∃g o,A=some ⟨g,o,none⟩∧g<w.heap.size∧∀(i:Nat) (x:Int),L[i]? =some x→w.cell? ⟨g,o+i,none⟩=some (.int .i64 x)
def jO (A:Option Addr) (n:Nat) (k:Nat):Prop:=0<n∧∃o,A=some ⟨k,o,none⟩
section
variable {w w':World} {A:Option Addr} {L:List Int} {S:Nat→Prop}
theorem JAt.off (h:JAt w A L) (ho:Off S w w') (hs:∀k,S k→¬jO A L.length k):JAt w' A L:=⟨fun hp=>by
 obtain ⟨g,o,rfl,hg,hc⟩:=h.at_ hp
 have hng:¬S g:=fun e=>hs g e ⟨hp,o,rfl⟩
 exact ⟨g,o,rfl,Nat.lt_of_lt_of_le hg ho.size,fun i x hx=>(ho.cell (p:=⟨g,_,none⟩) hg hng).trans (hc i x hx)⟩⟩
theorem JAt.up (h:JAt w A L) (hb:Below w.heap.size w w'):JAt w' A L:=h.off (S:=fun _=>False) (Off.of_below hb) (fun _=>False.elim)
end
theorem holdsJ {B:Nat} {w:World} {G n c:Nat} {L:List Int} (h:OwJ B w (.slice (some ⟨G,0,none⟩) n c) L) (hn:n=L.length):Holds (Value.int .i64) w G 0 L.toArray:=fun j hj=>by
 subst hn
 have hj':j<L.length:=by simpa using hj
 refine ⟨?_,World.ownsRow.frozenAt h _⟩
 rw [Nat.zero_add,getElem!_pos L.toArray j hj]
 exact h.cell (g:=G) rfl (by simp [hj'])
theorem jAt_of_holds {w:World} {G:Nat} {L:List Int} (hG:G<w.heap.size) (h:Holds (Value.int .i64) w G 0 L.toArray):JAt w (some ⟨G,0,none⟩) L:=⟨fun _=>⟨G,0,rfl,hG,fun i x hx=>by
 have hi:=(jS.1 hx).1
 have:=(h i (by simpa using hi)).1
 rw [getElem!_pos L.toArray i (by simpa using hi)] at this
 rw [this]
 have e:=(jS.1 hx).2
 simp [e]⟩⟩
theorem off_putRowJ (w:World) (G o:Nat) (F:Array Int):Off (· =G) w (putRow (Value.int .i64) w G o F):=by
 unfold putRow mapBlock
 exact ⟨rfl,rfl,rfl,by simp,fun k hk hn=>by simp [Array.getElem?_modify,Ne.symm hn]⟩
theorem off_growJ (w:World) (os:Array Obj):Off (fun _=>False) w (grow w os):=⟨rfl,rfl,rfl,by simp [grow],fun k hk _=>by simp [grow,Array.getElem?_append,hk]⟩
def srtJ (L:List Int):List Int:=L.mergeSort fun x y=>decide (x≤y)
theorem srtJ_perm (L:List Int):(srtJ L).Perm L:=List.mergeSort_perm L _
theorem srtJ_pair {L:List Int} (h:L.Nodup):(srtJ L).Pairwise (fun x y=>x<y):=by
 have hs:(srtJ L).Pairwise (fun x y=>decide (x≤y)=true):=by
  refine List.pairwise_mergeSort (fun a b c h1 h2=>?_) (fun a b=>?_) L
  · have:=of_decide_eq_true h1;have:=of_decide_eq_true h2;exact decide_eq_true (by omega)
  · by_cases h:a≤b
    · rw [decide_eq_true h];rfl
    · rw [decide_eq_true (show b≤a by omega)];simp
 have hn:(srtJ L).Pairwise (fun x y=>x≠y):=(srtJ_perm L).symm.nodup h
 exact (hs.and hn).imp fun {a b} ⟨h1,h2⟩=>by have:=of_decide_eq_true h1;omega
theorem KsOf.perm {f:Value→Option Value} {n:Nat} {xs ys:List Int} (h:KsOf f n xs) (hp:ys.Perm xs):KsOf f n ys:=⟨hp.symm.nodup h.nd,fun k=>(hp.mem_iff).trans (h.mem k),hp.length_eq.trans h.len⟩
theorem sortI_any (w:World) {B n c:Nat} {A:Option Addr} {L:List Int} (hL:OwJ B w (.slice A n c) L) (hn:n=L.length) (hsz:L.length≤1000000):
 Calls Tryz.prog 110 #[.slice A n c] w fun e w'=>e=.returned (.tuple #[])∧JAt w' A (srtJ L)∧Off (fun k=>(Value.slice A n c).ownBlock=some k) w w':=by
 subst hn
 cases L with
 | nil=>
   refine (Any.slices_Sort_int_none Tryz.sortJ A c w).mono ?_
   rintro e w' ⟨rfl,rfl⟩
   exact ⟨rfl,⟨fun h=>by simp [srtJ] at h⟩,Off.refl _ _⟩
 | cons x M=>
   obtain ⟨G,cap,hG,_⟩:=World.ownsRow.form hL (by simp)
   cases hG
   have hGl:=(hL.lt G rfl).2
   have h0:=holdsJ hL rfl
   refine (Any.slices_Sort_int Tryz.sortJ G 0 c (x::M) w h0 hGl (by omega)).mono ?_
   rintro e w' ⟨rfl,m,os,rfl⟩
   have h1:Holds (Value.int .i64) (putRow (Value.int .i64) (Sort.ahead w m) G 0 (srtJ (x::M)).toArray) G 0 (srtJ (x::M)).toArray:=holds_putRow _ _ G 0 (x::M).toArray (srtJ (x::M)).toArray h0 (by simp [(srtJ_perm (x::M)).length_eq])
   have o1:Off (· =G) w (putRow (Value.int .i64) (Sort.ahead w m) G 0 (srtJ (x::M)).toArray):=(show Off (· =G) w (Sort.ahead w m) from ⟨rfl,rfl,rfl,Nat.le_refl _,fun _ _ _=>rfl⟩).trans (off_putRowJ (Sort.ahead w m) G 0 _)
   have h2:=jAt_of_holds (Nat.lt_of_lt_of_le hGl o1.size) h1
   exact ⟨rfl,h2.off (off_growJ _ os) (fun _=>False.elim),(o1.mono fun k e=>by show some G=some k;rw [e]).trans ((off_growJ _ os).mono fun _=>False.elim)⟩
def SdPost (w:World) (f:Value→Option Value) (n:Nat) (e:Ending) (w':World):Prop:=
 ∃A c ks,(KsOf f n ks∧ks.Pairwise (fun x y=>x<y))∧e=.returned (.slice A n c)∧JAt w' A ks∧Below w.heap.size w w'∧∀k,jO A n k→w.heap.size≤k
section
variable {w:World} {b Mm n:Nat} {f:Value→Option Value}
theorem collectI_any (c0:w.cell? ⟨b,0,none⟩=some (.map (some Mm))) (hm:MapIs Tryz.prog 3 w Mm f n) (hk:∀key v,f key=some v→∃k,key=.int .i64 k) (hn:n≤1000000):
 Calls Tryz.prog 109 #[.func (.func 111) #[] #[.pointer (some ⟨b,0,none⟩)]] w (KsPost w f n):=by
 have HA:=hJ (appSeqI_any c0 hm hk hn)
 clear c0 hm hk
 go_enter Tryz.func109,Tryz.ntmps109
 go_wp2_with (go_at_call 148;refine HA.out.mono ?_;rintro e w1 ⟨A,c,xs,hks,rfl,how,hb⟩)
 go_ret
 exact ⟨A,c,xs,hks,rfl,how,hb⟩
theorem sortedI_any (c0:w.cell? ⟨b,0,none⟩=some (.map (some Mm))) (hm:MapIs Tryz.prog 3 w Mm f n) (hk:∀key v,f key=some v→∃k,key=.int .i64 k) (hn:n≤1000000):
 Calls Tryz.prog 67 #[.func (.func 111) #[] #[.pointer (some ⟨b,0,none⟩)]] w (SdPost w f n):=by
 have HA:=hJ (collectI_any c0 hm hk hn)
 clear c0 hm hk
 go_enter Tryz.func67,Tryz.ntmps67
 go_wp2_with fail
 refine HA.out.mono ?_
 rintro e w1 ⟨A,c,xs,hks,rfl,how,hb⟩
 have HS:=hJ (sortI_any w1 how hks.len.symm (by rw [hks.len];exact hn))
 have HB:=hJ hb
 have HKS:=hJ hks
 have HOW:=hJ how
 clear hks how hb
 go_wp2_with (go_at_call 110;refine HS.out.mono ?_;rintro e w2 ⟨rfl,hj,ho⟩;have HJ:=hJ hj;have HO:=hJ ho;clear hj ho)
 go_ret
 refine ⟨A,c,srtJ xs,⟨HKS.out.perm (srtJ_perm xs),srtJ_pair HKS.out.nd⟩,rfl,HJ.out,HB.out.trans (HO.out.below (fun k e=>(HOW.out.lt k e).1) HB.out.size),fun k hk=>?_⟩
 obtain ⟨_,o,rfl⟩:=hk
 obtain ⟨A',c',e,_,_,hh⟩:=HOW.out.form
 cases e
 exact (HOW.out.lt k (hh k o rfl).2).1
end
def KyPost (w:World) (Mm:Nat) (e:Ending) (w':World):Prop:=
 e=.returned (.func (.func 111) #[] #[.pointer (some ⟨w.heap.size,0,none⟩)])∧Below w.heap.size w w'∧w'.cell? ⟨w.heap.size,0,none⟩=some (.map (some Mm))
theorem keysI_any (w:World) (Mm:Nat):Calls Tryz.prog 68 #[.map (some Mm)] w (KyPost w Mm):=by
 go_enter Tryz.func68,Tryz.ntmps68
 go_wp2
 go_ret
 exact ⟨rfl,jB.alloc jN _,(alloc_at w (.map (some Mm)) 112).1⟩
set_option maxRecDepth 100000
set_option maxHeartbeats 4000000
open Go.RowKit Go.Maps
def slE:El (Int×Int) where
 sl:=37
 el:=59
 z:=.agg #[.int .i64 0,.int .i64 0]
 bytes:=16
 k:=2
 ht:=Tryz.underlying37
 hi:=by kernel_rfl
 hzs:=rfl
 hk:=by decide
 hb64:=by decide
 cells x:=[.int .i64 x.1,.int .i64 x.2]
 len _:=rfl
 one x u hu:=by
  simp at hu
  rcases hu with rfl|rfl<;>rfl
structure SlOf (m:Int→Option Int) (n:Nat) (L:List (Int×Int)):Prop where
 up:L.Pairwise (fun x y=>x.1<y.1)
 mem:∀k id,(k,id)∈L ↔ m k=some id
 len:L.length=n
def slL (m:Int→Option Int) (ks:List Int):List (Int×Int):=ks.map fun k=>(k,(m k).getD 0)
theorem slL_of {m:Int→Option Int} {n:Nat} {ks:List Int} (h:KsOf (spF m) n ks) (hp:ks.Pairwise (fun x y=>x<y)):SlOf m n (slL m ks):=by
 have hm:∀k,k∈ks ↔ (m k).isSome=true:=fun k=>by rw [h.mem,spF_at,Option.isSome_map]
 refine ⟨?_,fun k id=>?_,by rw [slL,List.length_map];exact h.len⟩
 · unfold slL
   rw [List.pairwise_map]
   exact hp
 · unfold slL
   rw [List.mem_map]
   constructor
   · rintro ⟨k',hk,e⟩
     injection e with e1 e2
     subst e1
     have:=(hm k').1 hk
     cases hv:m k' with
     |none=>rw [hv] at this;cases this
     |some i=>rw [hv] at e2;simp at e2;rw [e2]
   · intro hv
     exact ⟨k,(hm k).2 (by rw [hv];rfl),by rw [hv];rfl⟩
theorem MapIs.key_ok {P:Program} {k:TypeId} {w:World} {b c:Nat} {f:Value→Option Value} (h:MapIs P k w b f c) {key v:Value} (hf:f key=some v):∃l,keyOf P k key=some l:=by
 obtain ⟨es,clock,hb,hst,hc,hk,h1,h2⟩:=h
 obtain ⟨x,hx,rfl⟩:=h2 key v hf
 exact hk x hx
section
variable {w w':World} {D:SpD} {A:Option Addr} {cap n:Nat} {L:List Rg} {m:Int→Option Int} {S:Nat→Prop}
def SlPost (w:World) (m:Int→Option Int) (n:Nat) (e:Ending) (w':World):Prop:=
 ∃A c l,SlOf m n l∧e=.returned (.slice A n c)∧FrE slE w w' (.slice A n c) l
theorem slots_b (h:SpAt w D A cap L m n) (hn:n≤100000):Calls Tryz.prog 19 #[.pointer (some ⟨D.X,0,none⟩)] w (SlPost w m n):=by
 have H:=hJ h
 have c11:=h.c11
 have lX:=h.ltX
 have hky:=keysI_any w D.Mm
 have HKY:=hJ hky
 clear h hky
 go_enter Tryz.func19,Tryz.ntmps19
 go_wp2_with (go_at_call 68;refine HKY.out.mono ?_;rintro e w1 ⟨rfl,hb1,cb1⟩;have HB1:=hJ hb1;have CB1:=hJ cb1;clear hb1 cb1)
 have HSD:=hJ (sortedI_any CB1.out ((H.out.up HB1.out).mp) (fun key v hf=>by obtain ⟨k,_,e,_⟩:=spF_inv hf;exact ⟨k,e⟩) (by omega))
 refine HSD.out.mono ?_
 rintro e w2 ⟨Ak,ck,ks,hks,rfl,hj,hb2,hjO⟩
 have HKS:=hJ hks
 have HJ:=hJ hj
 have HB2:=hJ (HB1.out.trans (hb2.mono HB1.out.size))
 have HJO:=hJ hjO
 have hkl:=hks.1.len
 clear hks hj hb2 hjO HSD HKY CB1
 go_wp2_with fail
 go_loopw [3,13,5] (fun out i _ wr=>∃(j:Nat) (A':Option Addr) (c':Nat),j≤n∧i=.int .i64 (j:Nat)∧out=.slice A' j c'∧FrE slE w2 wr (.slice A' j c') (slL m (ks.take j))) (fun _ i _ _=>n-(intOf i).toNat)
 case atStart=>exact ⟨0,none,0,by omega,rfl,rfl,FrE.nil slE w2⟩
 case round=>
  obtain ⟨j,A1,c1,hjn,rfl,rfl,hfr⟩:=hrel
  have HF:=hJ hfr
  have hb:=hfr.2
  by_cases hlt:j<n
  · obtain ⟨x,hx⟩:∃x,ks[j]? =some x:=⟨_,jE (by omega)⟩
    obtain ⟨g,o,hA,hg,hc⟩:=(HJ.out.up hb).at_ (by omega)
    have q0:=hc j x hx
    have hjI:(j:Int)<(n:Int):=by omega
    have hs:=(H.out.up HB2.out).up hb
    have d11:=hs.c11
    have lX1:=hs.ltX
    obtain ⟨id,hid⟩:∃id,m x=some id:=by
     have:=(HKS.out.1.mem x).1 (jG hx)
     rw [spF_at,Option.isSome_map] at this
     cases hv:m x with
     |none=>rw [hv] at this;cases this
     |some id=>exact ⟨id,rfl⟩
    obtain ⟨kl,hkl2⟩:=hs.mp.key_ok (key:=.int .i64 x) (v:=.int .i64 id) (by rw [spF_at,hid];rfl)
    have hlk:=MapIs.look hs.mp intKeyed Tryz.underlying112 (by kernel_rfl:(zeroValue 3).run Tryz.prog wr=.ok (.int .i64 0) wr) hkl2 false
    rw [spF_at,hid] at hlk
    simp only [Bool.false_eq_true,if_false,Option.map_some,Option.getD_some] at hlk
    have hsl:slL m (ks.take (j+1))=slL m (ks.take j) ++ [(x,id)]:=by
     unfold slL
     rw [List.take_add_one,hx,List.map_append]
     simp [hid]
    have hln:(slL m (ks.take j)).length=j:=by unfold slL;rw [List.length_map,List.length_take];omega
    obtain ⟨A2,c2,w3,hr3,hf3,ho3⟩:=hfr.push (x,id) 59 (by omega) 37
    rw [hln] at hr3 hf3
    rw [←hsl] at hf3
    have HF3:=hJ hf3
    clear hfr hb hs hid hkl2 hsl hln hf3 ho3 hc hx
    rw [hA]
    have HA:=hJ hA
    clear hA
    go_wp2_with (at_builtin;go_must (refine wpList_append_run2 rfl (.tmp 17) (.tmp 26) 37 37 rfl _ _ rfl rfl hr3 ?_))
    go_roundw
    case rel=>exact ⟨j+1,A2,c2,by omega,by go_num,rfl,HF3.out⟩
    case measure=>simp [intOf];omega
  · obtain rfl:j=n:=by omega
    have hii:¬(j:Int)<(j:Int):=by omega
    clear hlt hfr hb
    go_wp2
    go_ret
    have hf:=HF.out
    rw [←hkl,List.take_length,hkl] at hf
    exact ⟨A1,c1,_,slL_of HKS.out.1 HKS.out.2,rfl,hf.1.mono HB2.out.size,HB2.out.trans (hf.2.mono HB2.out.size)⟩
theorem weight_b (h:SpAt w D A cap L m n) (hL:L.length≤10000) (hn:n≤1000000):Calls Tryz.prog 25 #[.pointer (some ⟨D.X,0,none⟩)] w fun e w'=>e=.returned (.int .i64 ((L.length+n:Nat):Int))∧Below w.heap.size w w':=by
 have c10:=h.c10
 have c11:=h.c11
 have lX:=h.ltX
 have hl:=fun nq ty=>MapIs.len (h.up (below_drewN (Below.refl w.heap.size w) nq)).mp Tryz.underlying112 ty
 have hw:IntKind.i64.wrap ((L.length:Int)+(n:Int))=(L.length:Int)+(n:Int):=IntWalk.i64_in _ (by omega)
 clear h
 go_enter Tryz.func25,Tryz.ntmps25
 go_upto_region 1 with (fail)
 go_quiet (fail)
 go_wp2
 go_ret
 exact ⟨by simp,below_drewN jB _⟩
theorem regions_b (h:SpAt w D A cap L m n) (hL:L.length≤10000):Calls Tryz.prog 24 #[.pointer (some ⟨D.X,0,none⟩)] w fun e w'=>∃A' c',e=.returned (.slice A' L.length c')∧FrG w w' (.slice A' L.length c') L:=by
 have c10:=h.c10
 have lX:=h.ltX
 have HC:=hJ (cloneG_any w cap h.row (by omega))
 clear h
 go_enter Tryz.func24,Tryz.ntmps24
 go_wp2_with (go_at_call 78;refine HC.out.mono ?_;rintro e w1 ⟨A1,c1,rfl,how,hb1⟩;have HF:=hJ (And.intro how hb1);clear how hb1)
 go_ret
 exact ⟨A1,c1,rfl,HF.out⟩
end
set_option maxRecDepth 100000
set_option maxHeartbeats 4000000
open Go.RowKit Go.Maps Go.MapKept
open Go.ChangeMaps (setBlock modify_eq_set)
theorem filter_erase {α:Type} (p:α→Bool):∀(l:List α) (j:Nat) (x:α),l[j]? =some x→p x=false→(l.eraseIdx j).filter p=l.filter p
 |[],j,x,h,_=>by simp at h
 | y::l,0,x,h,hp=>by
   simp at h
   subst h
   simp [hp]
 | y::l,j+1,x,h,hp=>by
   rw [List.getElem?_cons_succ] at h
   rw [List.eraseIdx_cons_succ,List.filter_cons,List.filter_cons,filter_erase p l j x h hp]
section
variable {P:Program} {k t e:TypeId} {w w':World} {b r c:Nat} {f:Value→Option Value} {left:Value→Prop} {cnt:Nat}
theorem ItIs.del (h:ItIs P k w b r f left cnt) (hm:MapIs P k w b f c) (K:Keyed P k) (ht:P.underlying t=some (.map k e)) {key:Value} {kl:Lit} (hkey:keyOf P k key=some kl) (hl:¬left key) (hbr:b≠r) (ty:TypeId):
 ∃w',(Builtin.delete_ #[t,k] ty #[.map (some b),key]).run P w=.ok (.tuple #[]) w'∧MapIs P k w' b (delK f key) (if (f key).isSome then c-1 else c)∧ItIs P k w' b r (delK f key) left cnt∧Off (· =b) w w':=by
 obtain ⟨w1,hr1,hm1,ho1⟩:=hm.del K ht hkey ty
 refine ⟨w1,hr1,hm1,?_,ho1⟩
 obtain ⟨es,clock,seen,hb,hr,hst,hk,h1,h2,h3,hc⟩:=h
 have hr':w1.heap[r]? =some (.mapIter (some b) clock seen clock):=(ho1.block r (Array.getElem?_eq_some_iff.1 hr).1 (fun e=>hbr e.symm)).trans hr
 have hlt:=(Array.getElem?_eq_some_iff.1 hb).1
 rcases K.find w hkey es.toList hk with ⟨g1,g2⟩|⟨j,e0,g1,g2,g3⟩
 · have hrun:(Builtin.delete_ #[t,k] ty #[.map (some b),key]).run P w=.ok (.tuple #[]) (setBlock w b (.map es clock)):=by
    simp [Builtin.delete_,run_underlying ht,MapKept.run_getObj_map hb,K.check w _ hkey,g1,MapKept.run_setObj_map _ hb,Result.andThen,setBlock]
   rw [hr1] at hrun
   injection hrun with _ hw
   subst hw
   refine ⟨es,clock,seen,by simp [setBlock,hlt],hr',hst,hk,fun x hx=>by simp [delK,g2 x hx,h1 x hx],fun key' v hv=>?_,h3,hc⟩
   unfold delK at hv
   split at hv
   · cases hv
   · exact h2 key' v hv
 · have hrun:(Builtin.delete_ #[t,k] ty #[.map (some b),key]).run P w=.ok (.tuple #[]) (setBlock w b (.map (es.eraseIdxIfInBounds j) clock)):=by
    simp [Builtin.delete_,run_underlying ht,MapKept.run_getObj_map hb,K.check w _ hkey,g1,MapKept.run_setObj_map _ hb,Result.andThen,setBlock]
   rw [hr1] at hrun
   injection hrun with _ hw
   subst hw
   have hjl:j<es.toList.length:=(jS.1 g2).1
   have hjs:j<es.size:=by simpa using hjl
   have hsub:(es.eraseIdxIfInBounds j).toList=es.toList.eraseIdx j:=by
    unfold Array.eraseIdxIfInBounds
    rw [dif_pos hjs]
    simp
   have hnd:=hst.2.2
   have who:∀x∈es.toList.eraseIdx j,x∈es.toList∧x.key≠key:=by
    intro x hx
    obtain ⟨i,hi,he⟩:=List.mem_eraseIdx_iff_getElem?.1 hx
    refine ⟨jG he,fun hxk=>hi ?_⟩
    have e1:(es.toList.map (·.key))[j]? =some key:=by rw [List.getElem?_map,g2];simp [g3]
    have e2:(es.toList.map (·.key))[i]? =some key:=by rw [List.getElem?_map,he];simp [hxk]
    exact ((List.getElem?_inj (by simpa using hjl) hnd).1 (e1.trans e2.symm)).symm
   have hseen:seen.contains e0.born=true:=by
    have:=h3 e0 (jG g2)
    rw [g3] at this
    cases hs:seen.contains e0.born with
    |true=>rfl
    |false=>exact absurd (this.2 hs) hl
   refine ⟨es.eraseIdxIfInBounds j,clock,seen,by simp [setBlock,hlt],hr',stamped_erase hst j,fun x hx=>?_,fun x hx=>?_,fun key' v hv=>?_,fun x hx=>?_,?_⟩
   · rw [hsub] at hx
     exact hk x (who x hx).1
   · rw [hsub] at hx
     simp [delK,(who x hx).2,h1 x (who x hx).1]
   · unfold delK at hv
     split at hv
     · cases hv
     · rename_i hne
       obtain ⟨x,hx,hxk⟩:=h2 key' v hv
       rw [hsub]
       obtain ⟨i,hi⟩:=List.mem_iff_getElem?.1 hx
       refine ⟨x,List.mem_eraseIdx_iff_getElem?.2 ⟨i,?_,hi⟩,hxk⟩
       intro hij
       subst hij
       rw [g2] at hi
       cases hi
       exact hne (hxk.symm.trans g3)
   · rw [hsub] at hx
     exact h3 x (who x hx).1
   · rw [hc]
     have e4:∀(s:Array MapEntry),(leftOf s seen).size=(s.toList.filter (fun x=>!seen.contains x.born)).length:=fun s=>by unfold leftOf;rw [←Array.length_toList,Array.toList_filter]
     rw [e4,e4,hsub,filter_erase _ _ j e0 g2 (by rw [hseen];rfl)]
end
theorem MapIs.clrM {P:Program} {k t e:TypeId} {w:World} {b c:Nat} {f:Value→Option Value} (h:MapIs P k w b f c) (ht:P.underlying t=some (.map k e)) (ty:TypeId):
 ∃w',(Builtin.clear_ #[t] ty #[.map (some b)]).run P w=.ok (.tuple #[]) w'∧MapIs P k w' b (fun _=>none) 0∧Off (· =b) w w':=by
 have hlt:=h.lt
 obtain ⟨es,clock,hb,hst,hc,hk,h1,h2⟩:=h
 refine ⟨setBlock w b (.map #[] clock),?_,⟨#[],clock,by simp [setBlock,hlt],stamped_empty clock,rfl,by simp,by simp,by simp⟩,off_setBlock _ _ _ _ rfl⟩
 simp [Builtin.clear_,run_underlying ht,MapKept.run_getObj_map hb,MapKept.run_setObj_map _ hb,Result.andThen,setBlock]
theorem wpList_clear0 {P:Program} {w w':World} {ops:Array Oper} {rest:List Oper} {o:Oper} {a:Act} {Q:Exit→Act→World→Prop} (hgd:o.guard=none) (hd:o.dst=none) (m:Operand) (t:TypeId)
 (ho:o.op=.call {callee:=.builtin .clear,args:=#[m],argTypes:=#[t]}) (mv:Value) (hm:a.eval m=mv)
 (hrun:(Builtin.clear_ #[t] o.type #[mv]).run P w=.ok (.tuple #[]) w') (h:wpList P ops Q rest a w'):wpList P ops Q (o::rest) a w:=by
 refine wpList_plain hgd fun K hK=>?_
 unfold Oper.wp execOp
 simp only [ho,resolve,invoke,builtin,Sem.run_bind,Sem.run_pure,Result.andThen_ok,List.map_toArray,List.map_cons,List.map_nil,hm,hrun]
 refine hK _ _ ?_
 rw [hd]
 exact h
theorem wpList_delete0 {P:Program} {w w':World} {ops:Array Oper} {rest:List Oper} {o:Oper} {a:Act} {Q:Exit→Act→World→Prop} (hgd:o.guard=none) (hd:o.dst=none) (m x:Operand) (t k:TypeId)
 (ho:o.op=.call {callee:=.builtin .delete,args:=#[m,x],argTypes:=#[t,k]}) (mv key:Value) (hm:a.eval m=mv) (hx:a.eval x=key)
 (hrun:(Builtin.delete_ #[t,k] o.type #[mv,key]).run P w=.ok (.tuple #[]) w') (h:wpList P ops Q rest a w'):wpList P ops Q (o::rest) a w:=
 wpList_delete_run hgd m x t k ho mv key hm hx hrun (by rw [hd];exact h)
end Go.Proofs.YtlhfjaagkgengaaGreat
