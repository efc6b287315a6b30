/- region: All. region: cut. -/
import Derived.Test.YtlhfjaagkgengaaGreatPC12
namespace Go.Proofs.YtlhfjaagkgengaaGreat
set_option maxRecDepth 100000
set_option maxHeartbeats 8000000
open Go.RowKit
set_option linter.unusedVariables false
set_option linter.unusedSimpArgs false
@[simp,go_sem] theorem semAt_load (l:Nat) (ρ:Operand→Value) t1 x d ty po af gd:Oper.semAt (some l) ρ {dst:=d,op:=.load t1 x,type:=ty,pos:=po,after:=af,guard:=gd}=execOp ρ {dst:=d,op:=.load t1 x,type:=ty,pos:=po,after:=af,guard:=gd}:=Oper.semAt_some l _ _ (fun c h=>by cases h)
@[simp,go_sem] theorem semAt_store (l:Nat) (ρ:Operand→Value) t1 x y d ty po af gd:Oper.semAt (some l) ρ {dst:=d,op:=.store t1 x y,type:=ty,pos:=po,after:=af,guard:=gd}=execOp ρ {dst:=d,op:=.store t1 x y,type:=ty,pos:=po,after:=af,guard:=gd}:=Oper.semAt_some l _ _ (fun c h=>by cases h)
@[simp,go_sem] theorem semAt_binOp (l:Nat) (ρ:Operand→Value) b t1 x y t2 d ty po af gd:Oper.semAt (some l) ρ {dst:=d,op:=.binOp b t1 x y t2,type:=ty,pos:=po,after:=af,guard:=gd}=execOp ρ {dst:=d,op:=.binOp b t1 x y t2,type:=ty,pos:=po,after:=af,guard:=gd}:=Oper.semAt_some l _ _ (fun c h=>by cases h)
@[simp,go_sem] theorem semAt_pick (l:Nat) (ρ:Operand→Value) x y z d ty po af gd:Oper.semAt (some l) ρ {dst:=d,op:=.pick x y z,type:=ty,pos:=po,after:=af,guard:=gd}=execOp ρ {dst:=d,op:=.pick x y z,type:=ty,pos:=po,after:=af,guard:=gd}:=Oper.semAt_some l _ _ (fun c h=>by cases h)
@[simp,go_sem] theorem semAt_alloc (l:Nat) (ρ:Operand→Value) e d ty po af gd:Oper.semAt (some l) ρ {dst:=d,op:=.alloc e,type:=ty,pos:=po,after:=af,guard:=gd}=execOp ρ {dst:=d,op:=.alloc e,type:=ty,pos:=po,after:=af,guard:=gd}:=Oper.semAt_some l _ _ (fun c h=>by cases h)
@[simp,go_sem] theorem semAt_fieldAddr (l:Nat) (ρ:Operand→Value) t x f d ty po af gd:Oper.semAt (some l) ρ {dst:=d,op:=.fieldAddr t x f,type:=ty,pos:=po,after:=af,guard:=gd}=execOp ρ {dst:=d,op:=.fieldAddr t x f,type:=ty,pos:=po,after:=af,guard:=gd}:=Oper.semAt_some l _ _ (fun c h=>by cases h)
theorem loadVar_bool {w:World} {g:Nat} {b:Bool} (h:w.cell? ⟨g,0,none⟩=some (.bool b)):(loadVar 4 ⟨g,0,none⟩).run Tryz.prog w=.ok (.bool b) w:=by
 simp [go_sem,h]
theorem results_bool1 {fn:Func} {p:Tmp} (h:fn.results=#[.cell p 4]) (tmps:Array Value) (w:World) (g:Nat) (b:Bool) (hp:tmps.getD p undef=.pointer (some ⟨g,0,none⟩)) (h0:w.cell? ⟨g,0,none⟩=some (.bool b)):
 (results fn tmps).run Tryz.prog w=.ok (.bool b) w:=by
 have hl:=loadVar_bool h0
 have hp2:tmps[p]?.getD undef=.pointer (some ⟨g,0,none⟩):=by rw [←hp];simp [Array.getD_eq_getD_getElem?]
 simp [results,h,hp2,asAddr,hl,Result.andThen]
theorem leaves_one {P:Program} {fn:Func} {tmps:Array Value} {R:Ending→World→Prop} {F:Fence} {m D:Nat} {v:Value} {w:World} (hK:w.heap[D]? =some (.deferred (some []))) (hr:(results fn tmps).run P (w.putObj D (.deferred none))=.ok v (w.putObj D (.deferred none))) (hR:R (.returned v) (w.putObj D (.deferred none))):
 LeavesInM F m P fn tmps R [{target:=.collected D,args:=#[]}] .returning w:=
 ⟨by simp,.inl ⟨D,_,rfl,run_takeDeferred hK,⟨v,hr,hR⟩⟩⟩
def andI (a b:Int):Int:=bits .and .i64 a b
def allSt (ways:Int):Option Int→Rg→Option Int×Bool
 |some at_,r=>if r.lo≠at_∨andI r.pr ways≠ways then (none,false) else (some r.hi,true)
 |none,_=>(none,false)
def allE (hi:Int):Option Int→Bool
 |some at_=>decide (at_=hi)
 |none=>false
def allF (L:List Rg) (lo hi ways:Int):Bool:=if hi≤lo then true else allE hi (foldL (allSt ways) (some lo) (piecesF L lo hi))
theorem allSt_al (ways:Int) (x:Option Int) (e:Rg) (h:x.isSome=true):(allSt ways x e).2=(allSt ways x e).1.isSome:=by
 cases x with
 |none=>cases h
 | some a=>
   unfold allSt
   simp only
   split<;>rfl
def alO (b7 b8 b9:Nat):Nat→Prop:=fun k=>k=b7∨k=b8∨k=b9
structure AlIv (b7 b8 b9:Nat) (ways:Int) (w:World) (at_:Int):Prop where
 c7:w.cell? ⟨b7,0,none⟩=some (.int .i64 ways)
 c8:w.cell? ⟨b8,0,none⟩=some (.bool false)
 f8:w.frozen? ⟨b8,0,none⟩=false
 c9:w.cell? ⟨b9,0,none⟩=some (.int .i64 at_)
 f9:w.frozen? ⟨b9,0,none⟩=false
theorem AlIv.off {b7 b8 b9:Nat} {ways at_:Int} {w w':World} {S:Nat→Prop} (h:AlIv b7 b8 b9 ways w at_) (ho:Off S w w') (hs:∀k,S k→¬alO b7 b8 b9 k):AlIv b7 b8 b9 ways w' at_:=
 ⟨(ho.cell (p:=⟨b7,0,none⟩) (lt_of_cell h.c7) (fun e=>hs _ e (.inl rfl))).trans h.c7,(ho.cell (p:=⟨b8,0,none⟩) (lt_of_cell h.c8) (fun e=>hs _ e (.inr (.inl rfl)))).trans h.c8,(ho.frozen (p:=⟨b8,0,none⟩) (lt_of_cell h.c8) (fun e=>hs _ e (.inr (.inl rfl)))).trans h.f8,
  (ho.cell (p:=⟨b9,0,none⟩) (lt_of_cell h.c9) (fun e=>hs _ e (.inr (.inr rfl)))).trans h.c9,(ho.frozen (p:=⟨b9,0,none⟩) (lt_of_cell h.c9) (fun e=>hs _ e (.inr (.inr rfl)))).trans h.f9⟩
theorem AlIv.lt {b7 b8 b9:Nat} {ways at_:Int} {w:World} (h:AlIv b7 b8 b9 ways w at_) {k:Nat} (hk:alO b7 b8 b9 k):k<w.heap.size:=by
 rcases hk with rfl|rfl|rfl
 · exact lt_of_cell h.c7
 · exact lt_of_cell h.c8
 · exact lt_of_cell h.c9
theorem all_any (w:World) {A:Option Addr} (c:Nat) {L:List Rg} (hL:RgAt w A L) (hn:L.length≤100000) (lo hi ways:Int):
 Calls Tryz.prog 101 #[.slice A L.length c,.int .i64 lo,.int .i64 hi,.int .i64 ways] w fun e w'=>e=.returned (.bool (allF L lo hi ways))∧Below w.heap.size w w':=by
 have HL:=hJ hL
 clear hL
 refine (callsIn_wide (n:=9)).1 ?_
 refine callsIn_of_wp_marks Tryz.func101 rfl trivial ?_ rfl
 simp only [Tryz.ntmps101,List.size_toArray,List.length_cons,List.length_nil,Nat.reduceAdd,Nat.reduceSub,Array.replicate_succ,Array.replicate_zero,List.push_toArray,List.append_toArray,List.nil_append,List.cons_append]
 refine wpIn_wide.2 ?_
 go_upto_region 1 with (fail)
 have h2:∀W,W=((w.alloc (.cells #[.int .i64 ways] 3)).alloc (.cells #[.bool false] 4))→Below w.heap.size w W∧W.cell? ⟨w.heap.size,0,none⟩=some (.int .i64 ways)∧W.cell? ⟨w.heap.size+1,0,none⟩=some (.bool false)∧W.frozen? ⟨w.heap.size+1,0,none⟩=false∧W.heap.size=w.heap.size+2:=by
  rintro W rfl
  have s1:(w.alloc (.cells #[.int .i64 ways] 3)).heap.size=w.heap.size+1:=by simp
  have b1:Below w.heap.size w (w.alloc (.cells #[.int .i64 ways] 3)):=jB.alloc jN _
  have c1:=(alloc_at w (.int .i64 ways) 3).1
  generalize w.alloc (.cells #[.int .i64 ways] 3)=W1 at *
  have b2:Below W1.heap.size W1 (W1.alloc (.cells #[.bool false] 4)):=jB.alloc jN _
  have c2:=alloc_at W1 (.bool false) 4
  rw [s1] at c2
  exact ⟨b1.trans (b2.mono (by omega)),(b2.cell (p:=⟨w.heap.size,0,none⟩) (by show w.heap.size<W1.heap.size;omega)).trans c1,c2.1,c2.2,by simp [s1]⟩
 refine wp_forget (fun W=>Below w.heap.size w W∧W.cell? ⟨w.heap.size,0,none⟩=some (.int .i64 ways)∧W.cell? ⟨w.heap.size+1,0,none⟩=some (.bool false)∧W.frozen? ⟨w.heap.size+1,0,none⟩=false∧W.heap.size=w.heap.size+2) (h2 _ rfl) ?_
 clear h2
 rintro W0 ⟨hb0,c7,c8,f8,hs0⟩
 have HB0:=hJ hb0
 have l8:=lt_of_cell c8
 clear hb0
 obtain ⟨g7,hg7⟩:∃g,w.heap.size=g:=⟨_,rfl⟩
 obtain ⟨g8,hg8⟩:∃g,g7+1=g:=⟨_,rfl⟩
 rw [hg7,hg8] at c8 f8 l8
 rw [hg7] at c7
 rw [hg7,hg8]
 have HG:=hJ (And.intro hg7 hg8)
 have HS0:=hJ hs0
 clear hg7 hg8 hs0
 have HEND:Hid (∀(Tm:Array Value) (V:World) (D:Nat) (z:Bool),Tm.getD 8 undef=.pointer (some ⟨g8,0,none⟩)→w.heap.size≤D→V.heap[D]? =some (.deferred (some []))→g8≠D→Below w.heap.size w V→V.cell? ⟨g8,0,none⟩=some (.bool z)→z=allF L lo hi ways→bodyPostM Fence.wide 9 Tryz.prog Tryz.f101 (fun e w'=>e=.returned (.bool (allF L lo hi ways))∧Below w.heap.size w w') .ret {tmps:=Tm,defers:=[{target:=.collected D,args:=#[]}]} V):=hJ fun Tm V D z hT hD hd hne hb hc hz=>by
  have ho:=off_putObj V (l:=D) (.deferred none)
  exact leaves_one hd (results_bool1 rfl Tm _ g8 z hT ((ho.cell (p:=⟨g8,0,none⟩) (lt_of_cell hc) (fun e=>hne e)).trans hc)) ⟨by rw [hz],hb.trans (ho.below (fun k e=>by rw [e];exact hD) hb.size)⟩
 by_cases hle:hi≤lo
 · have hz:allF L lo hi ways=true:=by unfold allF;rw [if_pos hle]
   go_wp2
   refine ⟨_,results_bool1 rfl _ _ g8 true rfl (World.cell?_setCell_same _ _ _ c8),by rw [hz],?_⟩
   have ho:Off (· =g8) W0 (W0.setCell ⟨g8,0,none⟩ (.bool true)):=(Off.refl (· =g8) W0).setCell (p:=⟨g8,0,none⟩) rfl _
   exact HB0.out.trans (ho.below (fun k e=>by rw [e];have:=HG.out;omega) HB0.out.size)
 · have hz :allF L lo hi ways=allE hi (foldL (allSt ways) (some lo) (piecesF L lo hi)):=by unfold allF;rw [if_neg hle]
   have HZ:=hJ hz
   have hled:decide (hi≤lo)=false:=decide_eq_false hle
   clear hz hle
   go_upto_region 4 with (fail)
   refine wp_forget (fun W=>AlIv g7 g8 W0.heap.size ways W lo∧Below W0.heap.size W0 W∧W.heap.size=W0.heap.size+1) ?_ ?_
   · have b1:Below W0.heap.size W0 (W0.alloc (.cells #[.int .i64 lo] 3)):=jB.alloc jN _
     have cn:=alloc_at W0 (.int .i64 lo) 3
     exact ⟨⟨(b1.cell (p:=⟨g7,0,none⟩) (lt_of_cell c7)).trans c7,(b1.cell (p:=⟨g8,0,none⟩) l8).trans c8,(b1.frozen (p:=⟨g8,0,none⟩) l8).trans f8,cn.1,cn.2⟩,b1,by simp⟩
   rintro W1 ⟨hiv,hb1,hs1⟩
   obtain ⟨g9,hg9⟩:∃g,W0.heap.size=g:=⟨_,rfl⟩
   rw [hg9] at hiv
   rw [hg9]
   have HG9:=hJ hg9
   have HIV:=hJ hiv
   have HB1:=hJ (HB0.out.trans (hb1.mono HB0.out.size))
   have HS1:=hJ hs1
   have HPI:=hJ (pieces_any W1 c (HL.out.up HB1.out) hn lo hi)
   clear hiv hb1 hs1 c7 c8 f8 l8 hg9 HB0
   go_wp2_with (go_at_call 144;refine HPI.out.mono ?_;rintro e W2 ⟨A',c',rfl,hpc,hb2,hs2,hrow⟩)
   have HIV2:Hid (AlIv g7 g8 g9 ways W2 lo):=hJ (HIV.out.off (S:=fun _=>False) (Off.of_below hb2) (fun _=>False.elim))
   have HPC:=hJ hpc
   have HB2:=hJ (HB1.out.trans (hb2.mono HB1.out.size))
   have HROW:=hJ hrow
   have HLT:Hid (∀k,alO g7 g8 g9 k→k<W1.heap.size):=hJ fun k hk=>HIV.out.lt hk
   have HS2:=hJ hs2
   clear hpc hb2 hs2 hrow HIV HPI HB1
   refine (wpIn_wide (n:=9)).1 ?_
   refine range_list (E:=Rg) (args:=Rg.args) (Ov:=alO g7 g8 g9) (ent_fn Tryz.func168 (by kernel_rfl) rfl) rfl (fun x=>rfl) (allSt ways) Option.isSome (allSt_al ways)
    (fun w O1 x=>(∀k,O1 k ↔ alO g7 g8 g9 k)∧∃at_,x=some at_∧AlIv g7 g8 g9 ways w at_) (fun c w O1 _=>(∀k,O1 k ↔ alO g7 g8 g9 k)∧c=.ret∧w.cell? ⟨g8,0,none⟩=some (.bool false)∧∀k,alO g7 g8 g9 k→k<w.heap.size)
    (fun {S O w w' x} h ho hs=>⟨h.1,by
     obtain ⟨at_,e,hi⟩:=h.2
     exact ⟨at_,e,hi.off ho (fun k e2 e3=>hs k e2 ((h.1 k).2 e3))⟩⟩) (fun {O w x k} h hk=>by
     obtain ⟨at_,e,hi⟩:=h.2
     exact hi.lt ((h.1 k).1 hk))
    (fun {c S O w w' x} h ho hs=>⟨h.1,h.2.1,(ho.cell (p:=⟨g8,0,none⟩) (lt_of_cell h.2.2.1) (fun e=>hs _ e ((h.1 g8).2 (.inr (.inl rfl))))).trans h.2.2.1,fun k hk=>Nat.lt_of_lt_of_le (h.2.2.2 k hk) ho.size⟩) (fun {c O w x k} h hk=>h.2.2.2 k ((h.1 k).1 hk))
    ?a1 (fun e W W'=>W'.cell? ⟨W.heap.size,0,none⟩=some (.int .i64 e.lo)∧W'.cell? ⟨W.heap.size,1,none⟩=some (.int .i64 e.hi)∧W'.cell? ⟨W.heap.size,2,none⟩=some (.int .i64 e.pr)) (some lo) rfl (piecesF L lo hi) ⟨fun k=>Iff.rfl,lo,rfl,HIV2.out⟩ ?iter ?assign ?body ?fin
   case iter=>
    intro Y V1 O1 hb hiv hO1
    refine pieces1_any Y (allSt_al ways) hiv rfl (HPC.out.off (S:=fun _=>False) (Off.of_below hb) (fun _=>False.elim)) (fun k hk e=>?_) hn
    have h1:W1.heap.size≤k:=by
     rcases hk with e|e|e|e
     · omega
     · omega
     · omega
     · exact HROW.out k e
    have h2:=HPC.out.lt hk
    rcases hO1 k e with e|e
    · have:=HLT.out k e;omega
    · omega
   case assign=>
    intro l x W' K hK
    have HK:=hJ hK
    clear hK
    simp only [Rg.args,Rg.v]
    gi_wp2
    refine HK.out _ (jB.alloc jN _) ?_
    have hc:∀k v,(#[.int .i64 x.lo,.int .i64 x.hi,.int .i64 x.pr]:Array Value)[k]? =some v→(W'.alloc (.cells #[.int .i64 x.lo,.int .i64 x.hi,.int .i64 x.pr] 62)).cell? ⟨W'.heap.size,k,none⟩=some v:=fun k v hv=>by
     rw [cell_of_row _ _ _ _ _ _ (heap_alloc_new W' _)];exact hv
    exact ⟨hc 0 _ rfl,hc 1 _ rfl,hc 2 _ rfl⟩
   case body=>
    intro l x e V0 V1 V O1 hiv hx hb hrel hof hl hlt
    obtain ⟨e0,e1,e2⟩:=e
    obtain ⟨hO1,at_,rfl,hi2⟩:=hiv
    obtain ⟨r0,r1,r2⟩:=hrel
    have lv:=lt_of_cell r0
    have hne:¬V0.heap.size=l:=by omega
    have k0:=(hof.cell (p:=⟨V0.heap.size,0,none⟩) lv hne).trans r0
    have k1:=(hof.cell (p:=⟨V0.heap.size,1,none⟩) lv hne).trans r1
    have k2:=(hof.cell (p:=⟨V0.heap.size,2,none⟩) lv hne).trans r2
    have c7:=hi2.c7
    have c8:=hi2.c8
    have f8:=hi2.f8
    have c9:=hi2.c9
    have f9:=hi2.f9
    have l7:=lt_of_cell c7
    have l8:=lt_of_cell c8
    have l9:=lt_of_cell c9
    have lk:=lt_of_cell k0
    have HO1:=hJ hO1
    have HI2:=hJ hi2
    have hng:g8≠g9∧g7≠g9:=by have h1:=HG.out;have h2:=HG9.out;have h3:=HS0.out;omega
    simp only at k0 k1 k2
    clear hO1 hi2 r0 r1 r2 hof hlt
    obtain ⟨z,hz⟩:∃z,allSt ways (some at_) ⟨e0,e1,e2⟩=z:=⟨_,rfl⟩
    rw [hz]
    have hstop:∀V',V'=V.setCell ⟨g8,0,none⟩ (.bool false)→(∀k,O1 k ↔ alO g7 g8 g9 k)∧V'.cell? ⟨g8,0,none⟩=some (.bool false)∧∀k,alO g7 g8 g9 k→k<V'.heap.size:=by
     rintro V' rfl
     exact ⟨HO1.out,World.cell?_setCell_same _ _ _ c8,fun k hk=>by have:=HI2.out.lt hk;simpa using this⟩
    have HSTOP:=hJ hstop
    have hnext:AlIv g7 g8 g9 ways (V.setCell ⟨g9,0,none⟩ (.int .i64 e1)) e1:=by
     have ho:Off (· =g9) V (V.setCell ⟨g9,0,none⟩ (.int .i64 e1)):=(Off.refl (· =g9) V).setCell (p:=⟨g9,0,none⟩) rfl _
     exact ⟨(ho.cell (p:=⟨g7,0,none⟩) l7 (fun e=>hng.2 e)).trans c7,(ho.cell (p:=⟨g8,0,none⟩) l8 (fun e=>hng.1 e)).trans c8,(ho.frozen (p:=⟨g8,0,none⟩) l8 (fun e=>hng.1 e)).trans f8,World.cell?_setCell_same _ _ _ c9,(World.frozen?_setCell _ _ _ _).trans f9⟩
    have HNEXT:=hJ hnext
    have HZ1:=hJ hz
    clear hstop hnext hz hng
    by_cases h1:e0=at_
    · by_cases h2:bits .and .i64 e2 ways=ways
      · have hz:z=(some e1,true):=by
         rw [←HZ1.out]
         unfold allSt andI
         simp only
         rw [if_neg (by rintro (h|h);exact h h1;exact h h2)]
        have hb1:(e0 !=at_)=false:=by simp [h1]
        subst h1
        rw [hz]
        have hb2:(bits .and .i64 e2 ways !=ways)=false:=by simp [h2]
        clear hz h2 HSTOP HZ1
        gi_wp2
        exact ⟨rfl,O1,⟨HO1.out,e1,rfl,HNEXT.out⟩,(Off.refl O1 V).setCell (p:=⟨g9,0,none⟩) ((HO1.out g9).2 (.inr (.inr rfl))) _,fun k hk=>.inl hk⟩
      · have hz:z=(none,false):=by
         rw [←HZ1.out]
         unfold allSt andI
         simp only
         rw [if_pos (.inr h2)]
        have hb1:(e0 !=at_)=false:=by simp [h1]
        subst h1
        rw [hz]
        have hb2:(bits .and .i64 e2 ways !=ways)=true:=by simp [h2]
        clear hz h2 HNEXT HZ1
        gi_wp2
        exact ⟨rfl,O1,⟨(HSTOP.out _ rfl).1,rfl,(HSTOP.out _ rfl).2⟩,(Off.refl O1 V).setCell (p:=⟨g8,0,none⟩) ((HO1.out g8).2 (.inr (.inl rfl))) _,fun k hk=>.inl hk⟩
    · have hz:z=(none,false):=by
       rw [←HZ1.out]
       unfold allSt andI
       simp only
       rw [if_pos (.inl h1)]
      have hb1:(e0 !=at_)=true:=by simp [h1]
      rw [hz]
      clear hz h1 HNEXT HZ1
      gi_wp2
      exact ⟨rfl,O1,⟨(HSTOP.out _ rfl).1,rfl,(HSTOP.out _ rfl).2⟩,(Off.refl O1 V).setCell (p:=⟨g8,0,none⟩) ((HO1.out g8).2 (.inr (.inl rfl))) _,fun k hk=>.inl hk⟩
   case fin=>
    intro D W4 O1 y hy hD hdf hof hO1
    have hDn:g8<D∧g9<D∧w.heap.size≤D:=by have h1:=HG.out;have h2:=HG9.out;have h3:=HS0.out;have h4:=HS1.out;have h5:=HS2.out;omega
    have hbw:Below w.heap.size w W4:=HB2.out.trans (hof.below (fun k e=>by have h1:=HG.out;have h2:=HG9.out;have h3:=HS0.out;rcases e with e|e|e<;>omega) HB2.out.size)
    have HBW:=hJ hbw
    have HDF:=hJ hdf
    have hval:allF L lo hi ways=allE hi y:=by rw [HZ.out,hy]
    have HV:=hJ hval
    have HY:=hJ hy
    clear hbw hdf hval hof hO1 hy
    refine ⟨fun hal hiv=>?_,fun hal c hix=>?_⟩
    · obtain ⟨hO1b,at_,hya,hi4⟩:=hiv
      subst hya
      have c8:=hi4.c8
      have f8:=hi4.f8
      have c9:=hi4.c9
      have l8:=lt_of_cell c8
      have l9:=lt_of_cell c9
      have HV2:=hJ (show allF L lo hi ways=decide (at_=hi) from HV.out)
      clear hi4 hO1b HV HY hal
      have ho:∀z,Off (· =g8) W4 (W4.setCell ⟨g8,0,none⟩ (.bool z)):=fun z=>(Off.refl (· =g8) W4).setCell (p:=⟨g8,0,none⟩) rfl _
      have hbz:∀z,Below w.heap.size w (W4.setCell ⟨g8,0,none⟩ (.bool z)):=fun z=>HBW.out.trans ((ho z).below (fun k e=>by rw [e];have:=HG.out;omega) HBW.out.size)
      have HBZ:=hJ hbz
      have HO:=hJ ho
      clear ho hbz
      go_wp2
      exact HEND.out _ _ D (at_==hi) rfl hDn.2.2 (heap_off HDF.out (HO.out _) (by omega)) (by omega) (HBZ.out _) (World.cell?_setCell_same _ _ _ c8) (by rw [HV2.out];rfl)
    · obtain ⟨hO1b,rfl,c8,_⟩:=hix
      have HV2:Hid (allF L lo hi ways=false):=hJ (by
       rw [HV.out]
       cases y with
       |none=>rfl
       |some a=>cases hal)
      have l8:=lt_of_cell c8
      clear HV hO1b
      gi_wp2
      exact HEND.out _ _ D false rfl hDn.2.2 HDF.out (by omega) HBW.out c8 HV2.out.symm
set_option maxRecDepth 100000
set_option maxHeartbeats 8000000
structure Rg3 (w:World) (b:Nat) (x y z:Int):Prop where
 c0:w.cell? ⟨b,0,none⟩=some (.int .i64 x)
 c1:w.cell? ⟨b,1,none⟩=some (.int .i64 y)
 c2:w.cell? ⟨b,2,none⟩=some (.int .i64 z)
theorem Rg3.new (w:World) (x y z:Int) (t:TypeId):Rg3 (w.alloc (.cells #[.int .i64 x,.int .i64 y,.int .i64 z] t)) w.heap.size x y z:=by
 have hc:∀k v,(#[.int .i64 x,.int .i64 y,.int .i64 z]:Array Value)[k]? =some v→(w.alloc (.cells #[.int .i64 x,.int .i64 y,.int .i64 z] t)).cell? ⟨w.heap.size,k,none⟩=some v:=fun k v hv=>by
  rw [cell_of_row _ _ _ _ _ _ (heap_alloc_new w _)];exact hv
 exact ⟨hc 0 _ rfl,hc 1 _ rfl,hc 2 _ rfl⟩
theorem Rg3.off {w w':World} {b:Nat} {x y z:Int} {S:Nat→Prop} (h:Rg3 w b x y z) (ho:Off S w w') (hs:¬S b):Rg3 w' b x y z:=
 ⟨(ho.cell (p:=⟨b,0,none⟩) (lt_of_cell h.c0) hs).trans h.c0,(ho.cell (p:=⟨b,1,none⟩) (lt_of_cell h.c0) hs).trans h.c1,(ho.cell (p:=⟨b,2,none⟩) (lt_of_cell h.c0) hs).trans h.c2⟩
theorem Rg3.up {w w':World} {b:Nat} {x y z:Int} (h:Rg3 w b x y z) (hb:Below w.heap.size w w'):Rg3 w' b x y z:=h.off (S:=fun _=>False) (Off.of_below hb) id
theorem FrG.nil (w:World):FrG w w (.slice none 0 0) []:=⟨OwG.nil _ _,Below.refl _ _⟩
theorem FrG.up {w0 w w':World} {v:Value} {L:List Rg} (h:FrG w0 w v L) (hb:Below w.heap.size w w'):FrG w0 w' v L:=⟨h.1.up hb,h.2.trans (hb.mono h.2.size)⟩
theorem FrG.push {w0 w:World} {v:Value} {L:List Rg} (h:FrG w0 w v L) (x:Rg) (t:TypeId) (hlen:L.length≤900000) (ty:TypeId):
 ∃A' c' w',(Builtin.append_ #[41,41] ty #[v,.slice (some ⟨w.heap.size,0,none⟩) 1 1]).run Tryz.prog (w.alloc (.cells #[.int .i64 x.lo,.int .i64 x.hi,.int .i64 x.pr] t))=.ok (.slice A' (L.length+1) c') w'∧FrG w0 w' (.slice A' (L.length+1) c') (L ++ [x])∧Off (fun k=>v.ownBlock=some k) w w':=by
 have hb:Below w.heap.size w (w.alloc (.cells #[.int .i64 x.lo,.int .i64 x.hi,.int .i64 x.pr] t)):=jB.alloc jN _
 have hc:∀k v,(#[.int .i64 x.lo,.int .i64 x.hi,.int .i64 x.pr]:Array Value)[k]? =some v→(w.alloc (.cells #[.int .i64 x.lo,.int .i64 x.hi,.int .i64 x.pr] t)).cell? ⟨w.heap.size,k,none⟩=some v:=fun k v hv=>by
  rw [cell_of_row _ _ _ _ _ _ (heap_alloc_new w _)];exact hv
 have hrow:RgAt (w.alloc (.cells #[.int .i64 x.lo,.int .i64 x.hi,.int .i64 x.pr] t)) (some ⟨w.heap.size,0,none⟩) [x]:=⟨fun _=>⟨w.heap.size,0,rfl,by simp,fun i y hy=>by
  cases i with
  |zero=>simp at hy;subst hy;exact ⟨hc 0 _ rfl,hc 1 _ rfl,hc 2 _ rfl⟩
  |succ i=>simp at hy⟩⟩
 have hbs:=hb.size
 have hob:Off (fun k=>v.ownBlock=some k) w (w.alloc (.cells #[.int .i64 x.lo,.int .i64 x.hi,.int .i64 x.pr] t)):=Off.of_below hb
 generalize w.alloc (.cells #[.int .i64 x.lo,.int .i64 x.hi,.int .i64 x.pr] t)=W1 at *
 have h1:=h.up hb
 have hs:=h.2.size
 obtain ⟨A',c',w',hr,ho,hof,hat⟩:=h1.1.app (M:=[x]) (m:=1) (c:=1) (by omega) rfl hrow (by simp;omega) ty
 rw [List.length_append,List.length_singleton] at hr ho hat
 exact ⟨A',c',w',hr,⟨ho,h1.2.trans (hof.below (fun k e=>(h1.1.lt e).1) h1.2.size)⟩,hob.trans hof⟩
def cut1 (lo hi:Int) (r:Rg):List Rg:=(if r.lo<minI r.hi lo then [⟨r.lo,minI r.hi lo,r.pr⟩] else []) ++ (if maxI r.lo hi<r.hi then [⟨maxI r.lo hi,r.hi,r.pr⟩] else [])
def cutR (L:List Rg) (lo hi:Int):List Rg:=if hi≤lo then L else L.flatMap (cut1 lo hi)
theorem cut1_len (lo hi:Int) (r:Rg):(cut1 lo hi r).length≤2:=by
 unfold cut1
 split<;>split<;>simp
theorem flat_take (L:List Rg) (lo hi:Int) {j:Nat} {r:Rg} (hr:L[j]? =some r):(L.take (j+1)).flatMap (cut1 lo hi)=(L.take j).flatMap (cut1 lo hi) ++ cut1 lo hi r:=by
 have hj:=(jS.1 hr).1
 rw [List.take_add_one,hr]
 simp
theorem flat_len (lo hi:Int):∀(L:List Rg),(L.flatMap (cut1 lo hi)).length≤2*L.length
 |[]=>by simp
 | x::L=>by
   have h1:=flat_len lo hi L
   have h2:=cut1_len lo hi x
   simp only [List.flatMap_cons,List.length_append,List.length_cons]
   omega
theorem cutG_any (w:World) {A:Option Addr} (c:Nat) {L:List Rg} (hL:RgAt w A L) (hn:L.length≤100000) (lo hi:Int):
 Calls Tryz.prog 198 #[.slice A L.length c,.int .i64 lo,.int .i64 hi] w fun e w'=>∃A' c',e=.returned (.slice A' (cutR L lo hi).length c')∧FrG w w' (.slice A' (cutR L lo hi).length c') (cutR L lo hi):=by
 have HL:=hJ hL
 clear hL
 by_cases hle:hi≤lo
 · have e:cutR L lo hi=L:=by unfold cutR;rw [if_pos hle]
   rw [e]
   have HC:=hJ (cloneG_any w c HL.out hn)
   clear e
   go_enter Tryz.func198,Tryz.ntmps198
   go_wp2_with (go_at_call 78;refine HC.out.mono ?_;rintro e W1 ⟨A1,c1,rfl,how,hb1⟩;have HF:=hJ (show FrG w W1 (.slice A1 L.length c1) L from ⟨how,hb1⟩);clear how hb1)
   go_ret
   exact ⟨_,_,rfl,HF.out⟩
 · have e:cutR L lo hi=L.flatMap (cut1 lo hi):=by unfold cutR;rw [if_neg hle]
   rw [e]
   have hled:decide (hi≤lo)=false:=decide_eq_false hle
   obtain ⟨R,hR⟩:∃R,R=L.flatMap (cut1 lo hi):=⟨_,rfl⟩
   rw [←hR]
   have HR:=hJ hR
   clear e hle hR
   go_enter Tryz.func198,Tryz.ntmps198
   go_wp2
   clear hled
   go_loopw [7,19] (fun v i wr=>∃(j:Nat) (A':Option Addr) (c':Nat),j≤L.length∧i=.int .i64 (j:Nat)∧v=.slice A' ((L.take j).flatMap (cut1 lo hi)).length c'∧FrG w wr (.slice A' ((L.take j).flatMap (cut1 lo hi)).length c') ((L.take j).flatMap (cut1 lo hi))) (fun _ i _=>L.length-(intOf i).toNat)
   case atStart=>exact ⟨0,none,0,by omega,rfl,rfl,FrG.nil w⟩
   case round=>
    obtain ⟨j,A1,c1,hj,rfl,rfl,hfr⟩:=hrel
    have HF:=hJ hfr
    have hlen:=flat_len lo hi (L.take j)
    have hlt:(L.take j).length≤L.length:=by simp;omega
    by_cases hjn:j<L.length
    · have hrow:=HL.out.up hfr.2
      obtain ⟨g,o,hA,hg,hc⟩:=hrow.at_ (by omega)
      subst hA
      obtain ⟨r,hr⟩:∃r,L[j]? =some r:=⟨_,jE hjn⟩
      obtain ⟨q0,q1,q2⟩:=hc j r hr
      have hjI:(j:Int)<(L.length:Int):=by omega
      have HT:=hJ (flat_take L lo hi hr)
      obtain ⟨ra,rb,rp⟩:=r
      simp only at q0 q1 q2
      have HT2:Hid ((L.take (j+1)).flatMap (cut1 lo hi)=(L.take j).flatMap (cut1 lo hi) ++ ((if ra<minI rb lo then [⟨ra,minI rb lo,rp⟩] else []) ++ (if maxI ra hi<rb then [⟨maxI ra hi,rb,rp⟩] else []))):=HT
      obtain ⟨p1,hp1⟩:∃p,p=minI rb lo:=⟨_,rfl⟩
      obtain ⟨p0,hp0⟩:∃p,p=maxI ra hi:=⟨_,rfl⟩
      rw [←hp0,←hp1] at HT2
      obtain ⟨M,hM⟩:∃M,(L.take j).flatMap (cut1 lo hi)=M:=⟨_,rfl⟩
      rw [hM] at HF HT2 hlen
      rw [hM]
      obtain ⟨M1,hM1⟩:∃M1:List Rg,M1=M ++ (if ra<p1 then [⟨ra,p1,rp⟩] else []):=⟨_,rfl⟩
      obtain ⟨M2,hM2⟩:∃M2:List Rg,M2=M1 ++ (if p0<rb then [⟨p0,rb,rp⟩] else []):=⟨_,rfl⟩
      rw [←List.append_assoc,←hM1,←hM2] at HT2
      have HM1:=hJ hM1
      have HM2:=hJ hM2
      have hm1:M1.length≤2*L.length+1:=by rw [hM1];split<;>simp<;>omega
      have HLT:Hid (∀k,(Value.slice A1 M.length c1).ownBlock=some k→k<wr.heap.size):=hJ fun k e=>(HF.out.1.lt e).2
      clear hM1 hM2
      unfold maxI at hp0
      unfold minI at hp1
      have HP:=hJ (And.intro hp0 hp1)
      clear hfr hc hr HT hp0 hp1 hM hrow
      go_upto_region 8 with (fail)
      rw [←HP.out.2]
      refine wp_forget (fun V=>FrG w V (.slice A1 M.length c1) M∧Rg3 V wr.heap.size ra rb rp∧Rg3 V (wr.heap.size+1) ra p1 rp) ?_ ?_
      · have b1:Below wr.heap.size wr (wr.alloc (.cells #[.int .i64 ra,.int .i64 rb,.int .i64 rp] 62)):=jB.alloc jN _
        have s1:(wr.alloc (.cells #[.int .i64 ra,.int .i64 rb,.int .i64 rp] 62)).heap.size=wr.heap.size+1:=by simp
        have g1:=Rg3.new wr ra rb rp 62
        generalize wr.alloc (.cells #[.int .i64 ra,.int .i64 rb,.int .i64 rp] 62)=W1 at *
        have b2:Below W1.heap.size W1 (W1.alloc (.cells #[.int .i64 ra,.int .i64 p1,.int .i64 rp] 62)):=jB.alloc jN _
        have g2:=Rg3.new W1 ra p1 rp 62
        rw [s1] at g2
        exact ⟨(HF.out.up b1).up b2,g1.up b2,g2⟩
      rintro V ⟨hf,k9,k10⟩
      obtain ⟨b9,hb9⟩:∃g,wr.heap.size=g:=⟨_,rfl⟩
      have HB9:=hJ hb9
      obtain ⟨b10,hb10⟩:∃g,wr.heap.size+1=g:=⟨_,rfl⟩
      rw [hb9] at k9
      rw [hb10] at k10
      rw [hb10,hb9]
      have HFV:=hJ hf
      have HK9:=hJ k9
      obtain ⟨x0,x1,x2⟩:=k10
      have lx:=lt_of_cell x0
      clear hf k9 HF q0 q1 q2 hb9 hb10
      go_upto_if 36 with (fail)
      go_cut [7] from 36 to 40 (fun v V'=>∃A' c',v=.slice A' M1.length c'∧FrG w V' (.slice A' M1.length c') M1∧Rg3 V' b9 ra rb rp)
      case first=>
       by_cases h1:ra<p1
       · obtain ⟨A2,c2,w2,hr2,hf2,hof2⟩:=HFV.out.push ⟨ra,p1,rp⟩ 62 (by omega) 41
         have hM:M1=M ++ [⟨ra,p1,rp⟩]:=by rw [HM1.out,if_pos h1]
         have hl:M1.length=M.length+1:=by rw [hM];simp
         rw [←hM,←hl] at hf2
         rw [←hl] at hr2
         have HF2:=hJ hf2
         have HK2:=hJ (HK9.out.off hof2 (fun e=>by have:=HLT.out _ e;have:=HB9.out;omega))
         simp only at hr2
         clear hM hl hf2 hof2
         go_wp2_with (at_builtin;go_must (refine wpList_append_run rfl (.tmp 37) (.tmp 39) 41 rfl _ _ rfl rfl hr2 ?_))
         go_meet
         exact ⟨_,_,rfl,HF2.out,HK2.out⟩
       · have hd:decide (ra<p1)=false:=decide_eq_false h1
         have hM:M1=M:=by rw [HM1.out,if_neg h1,List.append_nil]
         have HX:=hJ hM
         clear hM
         go_wp2_with fail
         go_meet
         exact ⟨_,_,by rw [HX.out],by rw [HX.out];exact HFV.out,HK9.out⟩
      case rest=>
      obtain ⟨A2,c2,rfl,hf,k9⟩:=hcut
      have HF2:=hJ hf
      have y0:=k9.c0
      have y1:=k9.c1
      have y2:=k9.c2
      have ly:=lt_of_cell y0
      clear hf k9 HFV HK9 x0 x1 x2 lx HLT HB9
      go_upto_region 11 with (fail)
      rw [←HP.out.1]
      refine wp_forget (fun V=>FrG w V (.slice A2 M1.length c2) M1∧Rg3 V wc.heap.size p0 rb rp) ⟨HF2.out.up (jB.alloc jN _),Rg3.new wc p0 rb rp 62⟩ ?_
      rintro V2 ⟨hf,k11⟩
      obtain ⟨b11,hb11⟩:∃g,wc.heap.size=g:=⟨_,rfl⟩
      rw [hb11] at k11
      rw [hb11]
      have HF3:=hJ hf
      have x0:=k11.c0
      have x1:=k11.c1
      have x2:=k11.c2
      have lx:=lt_of_cell x0
      clear hf k11 HF2 y0 y1 y2 ly hb11
      by_cases h1:p0<rb
      · obtain ⟨A3,c3,w3,hr3,hf3,hof3⟩:=HF3.out.push ⟨p0,rb,rp⟩ 62 (by omega) 41
        have hM:M2=M1 ++ [⟨p0,rb,rp⟩]:=by rw [HM2.out,if_pos h1]
        have hl:M2.length=M1.length+1:=by rw [hM];simp
        rw [←hM,←hl] at hf3
        rw [←hl] at hr3
        have HF4:=hJ hf3
        simp only at hr3
        clear hM hl hf3 hof3
        go_wp2_with (at_builtin;go_must (refine wpList_append_run rfl (.tmp 55) (.tmp 57) 41 rfl _ _ rfl rfl hr3 ?_))
        go_roundw
        case rel=>exact ⟨j+1,A3,c3,by omega,by go_num,by rw [HT2.out],by rw [HT2.out];exact HF4.out⟩
        case measure=>simp [intOf];omega
      · have hd:decide (p0<rb)=false:=decide_eq_false h1
        have hM:M2=M1:=by rw [HM2.out,if_neg h1,List.append_nil]
        have HX:=hJ hM
        clear hM
        go_wp2
        go_roundw
        case rel=>exact ⟨j+1,A2,c2,by omega,by go_num,by rw [HT2.out,HX.out],by rw [HT2.out,HX.out];exact HF3.out⟩
        case measure=>simp [intOf];omega
    · obtain rfl:j=L.length:=by omega
      have hjj:¬(L.length:Int)<(L.length:Int):=by omega
      rw [List.take_length,←HR.out] at HF
      rw [List.take_length,←HR.out]
      clear hjn hlen hlt hfr
      go_wp2
      go_ret
      exact ⟨_,_,rfl,HF.out⟩
end Go.Proofs.YtlhfjaagkgengaaGreat
