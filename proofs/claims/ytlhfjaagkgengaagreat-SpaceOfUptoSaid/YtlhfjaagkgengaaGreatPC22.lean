/- A range over any function: what the rounds and the sequence promise each other. maps.Keys: the keys of a map, in whatever order. -/
import Derived.Test.YtlhfjaagkgengaaGreatPC02
import Derived.Test.YtlhfjaagkgengaaGreatPC19
namespace Go.Proofs.YtlhfjaagkgengaaGreat
set_option maxRecDepth 100000
set_option maxHeartbeats 4000000
open Go.RowKit
set_option linter.unusedVariables false
set_option linter.unusedSimpArgs false
def VsG {α:Type} (Iv:World→(Nat→Prop)→α→Prop) (own:Nat→Prop) (w:World) (O:Nat→Prop) (y:α×Bool) (e:Ending) (w':World):Prop:=
 ∃O':Nat→Prop,e=.returned (.bool y.2)∧Iv w' O' y.1∧Off O w w'∧∀k,O' k→O k∨own k∨w.heap.size≤k
def bdPostG {α:Type} (al:α→Bool) (Iv:World→(Nat→Prop)→α→Prop) (Ix:Code→World→(Nat→Prop)→α→Prop) (OW OG:Nat→Prop) (W:World) (y:α):Exit→Act→World→Prop
 | .normal,_,W'=>al y=true∧∃O':Nat→Prop,Iv W' O' y∧Off OW W W'∧∀k,O' k→OG k
 | .ret,_,W'=>al y=false∧∃O':Nat→Prop,Ix .ret W' O' y∧Off OW W W'∧∀k,O' k→OG k
 | .exit id,_,W'=>al y=false∧∃O':Nat→Prop,Ix (.exit id) W' O' y∧Off OW W W'∧∀k,O' k→OG k
 | .goto t,_,W'=>al y=false∧∃O':Nat→Prop,Ix (.goto t) W' O' y∧Off OW W W'∧∀k,O' k→OG k
 | .panic _,_,_=>False
 | .outgrown,_,_=>False
structure YldG {α ε:Type} (f:α→ε→α×Bool) (arg:World→(Nat→Prop)→ε→Array Value→Prop) (own:Array Value→Nat→Prop) where
 l:Nat
 Iv:World→(Nat→Prop)→α→Prop
 Rdy:α→Nat→Prop
 mono:∀a n m,Rdy a n→m≤n→Rdy a m
 step:∀a e n,Rdy a (n+1)→(f a e).2=true→Rdy (f a e).1 n
 off:∀{S O:Nat→Prop} {w w':World} {a:α},Iv w O a→Off S w w'→(∀k,S k→¬O k)→Iv w' O a
 lt:∀{O:Nat→Prop} {w:World} {a:α} {k:Nat},Iv w O a→O k→k<w.heap.size
 call:∀{w:World} {O:Nat→Prop} {a:α} {e:ε} {vs:Array Value},Iv w O a→Rdy a 1→arg w O e vs→YieldAt Fence.wide 8 Tryz.prog l vs w (VsG Iv (own vs) w O (f a e))
theorem range_gen {α ε:Type} {F:FuncId} {lb:Array Value} {g:Operand} {ps:Array Tmp} {assign body:Code} {Q:Exit→Act→World→Prop} {a:Act} {w:World} {OS Ov:Nat→Prop}
 (hg:a.eval g=.func (.func F) #[] lb) (ent:∀(args:Array Value) (w:World),(callFunc F args).run Tryz.prog w=.ok (.enter F args) w)
 (f:α→ε→α×Bool) (al:α→Bool) (arg:World→(Nat→Prop)→ε→Array Value→Prop) (own:Array Value→Nat→Prop) (hal:∀x e,al x=true→(f x e).2=al (f x e).1)
 (Rdy:α→Nat→Prop) (rdyM:∀a n m,Rdy a n→m≤n→Rdy a m) (rdyS:∀a e n,Rdy a (n+1)→Rdy (f a e).1 n)
 (hlen:∀{w:World} {O:Nat→Prop} {e:ε} {vs:Array Value},arg w O e vs→vs.size=ps.size)
 (argOwn:∀{w:World} {O:Nat→Prop} {e:ε} {vs:Array Value} {k:Nat},arg w O e vs→own vs k→¬O k)
 (argOff:∀{S O O1:Nat→Prop} {w w':World} {e:ε} {vs:Array Value},arg w O e vs→Off S w w'→(∀k,S k→O k)→(∀k,O1 k→O k)→arg w' O1 e vs)
 (Iv:World→(Nat→Prop)→α→Prop) (Ix:Code→World→(Nat→Prop)→α→Prop)
 (ivOff:∀{S O:Nat→Prop} {w w':World} {x:α},Iv w O x→Off S w w'→(∀k,S k→¬O k)→Iv w' O x) (ivLt:∀{O:Nat→Prop} {w:World} {x:α} {k:Nat},Iv w O x→O k→k<w.heap.size)
 (ixOff:∀{c:Code} {S O:Nat→Prop} {w w':World} {x:α},Ix c w O x→Off S w w'→(∀k,S k→¬O k)→Ix c w' O x) (ixLt:∀{c:Code} {O:Nat→Prop} {w:World} {x:α} {k:Nat},Ix c w O x→O k→k<w.heap.size)
 (x0:α) (N:Nat) (hN:Rdy x0 N) (hx0:al x0=true) (hi:Iv w Ov x0) (hOS:∀k,OS k→k<w.heap.size)
 (Rs:α→World→Prop) (rsOff:∀{y:α} {W W':World},Rs y W→w.heap.size≤W.heap.size→Off (· =w.heap.size+1) W W'→Rs y W')
 (hround:∀(l:Nat) (x:α) (e:ε) (vs:Array Value) (W:World) (O1:Nat→Prop),(∀k,O1 k→k<W.heap.size)→l<W.heap.size→¬O1 l→al x=true→Rdy x 1→arg W O1 e vs→
  assign.wpIn (Fence.wide.inRound l) 8 Tryz.prog (Exit.then (fun a1 W1=>Below W.heap.size W W1∧∀W2,Off (· =l) W1 W2→Iv W2 O1 x→arg W2 O1 e vs→
   body.wpIn (Fence.wide.inRound l) 8 Tryz.prog (bdPostG al Iv Ix (fun k=>O1 k∨W.heap.size≤k) (fun k=>O1 k∨own vs k∨W.heap.size≤k) W2 (f x e).1) a1 W2) (fun _ _ _=>False)) {tmps:=(ps.zip vs).foldl (fun t (p,v)=>t.setIfInBounds p v) a.tmps,defers:=[]} W)
 (hseq:∀(Y:YldG f arg own) (W1:World) (O1:Nat→Prop),Below w.heap.size w W1→Y.Iv W1 O1 x0→Y.Rdy x0 N→(∀k,O1 k→Ov k∨w.heap.size≤k)→
  Calls Tryz.prog F (#[.func (.yield Y.l) #[] #[]] ++ lb) W1 fun e W2=>∃(y:α) (O2:Nat→Prop),(∃v,e=.returned v)∧Y.Iv W2 O2 y∧Rs y W2∧Off (fun k=>OS k∨O1 k) W1 W2∧∀k,O2 k→O1 k∨W1.heap.size≤k)
 (hend:∀(D:Nat) (W:World) (O1:Nat→Prop) (y:α),w.heap.size≤D→W.heap[D]? =some (.deferred (some []))→Rs y W→Off (fun k=>OS k∨Ov k) w W→(∀k,O1 k→Ov k∨w.heap.size≤k)→¬O1 D→
  (al y=true→Iv W O1 y→Q .normal {a with defers:={target:=.collected D,args:=#[]}::a.defers} W)∧
  (al y=false→∀c,Ix c W O1 y→c.wpIn Fence.wide 9 Tryz.prog Q {a with defers:={target:=.collected D,args:=#[]}::a.defers} W)):
 (Code.rangeFunc g ps assign body).wpIn Fence.wide 9 Tryz.prog Q a w:=by
 refine wpIn_rangeFunc ?_
 intro fn hfn
 obtain ⟨rec,hrec⟩:∃rec:LoopState→Option Code→Loop,rec=fun st pe=>{state:=st,pending:=pe,fn,tmps:=a.tmps,params:=ps,assign,body,defers:=w.heap.size}:=⟨_,rfl⟩
 obtain ⟨W1,hW1⟩:∃W1,(w.alloc (.deferred (some []))).alloc (.loop (rec .ready none))=W1:=⟨_,rfl⟩
 have hL1:W1.heap[w.heap.size+1]? =some (.loop (rec .ready none)):=by
  rw [←hW1];have:=World.alloc_heap_new (w.alloc (.deferred (some []))) (.loop (rec .ready none));rwa [World.size_alloc] at this
 have hK1:W1.heap[w.heap.size]? =some (.deferred (some [])):=by
  rw [←hW1];exact (Below.heap_alloc _ _ _ (by simp)).trans (World.alloc_heap_new w _)
 have hb1:Below w.heap.size w W1:=by
  rw [←hW1];exact ((Below.refl _ w).alloc jN _).alloc (by simp) _
 obtain ⟨L,hL⟩:∃L,w.heap.size+1=L:=⟨_,rfl⟩
 obtain ⟨D,hD⟩:∃D,w.heap.size=D:=⟨_,rfl⟩
 have hVlt:∀k,Ov k→k<w.heap.size:=fun k hk=>ivLt hi hk
 have hLD:L≠D:=by omega
 let Y : YldG f arg own:={
  l:=L
  Iv:=fun w O x=>∃O1,LpAt al Iv Ix rec L D w O x O1
  Rdy:=fun x n=>al x=true∧Rdy x n
  mono:=fun x n m h hm=>⟨h.1,rdyM _ _ _ h.2 hm⟩
  step:=fun x e n h h2=>⟨(hal x e h.1).symm.trans h2,rdyS _ _ _ h.2⟩
  off :=fun {S O w w' x} h ho hs=>by
   obtain ⟨O1,k⟩:=h
   have hs1:∀k',S k'→¬O1 k':=fun k' e e2=>hs k' e ((k.eqO k').2 (.inl e2))
   exact ⟨O1,k.eqO,k.nL,k.nD,heap_off k.df ho (fun e=>hs D e ((k.eqO D).2 (.inr (.inr rfl)))),fun e=>⟨ivOff (k.yes e).1 ho hs1,heap_off (k.yes e).2 ho (fun e=>hs L e ((k.eqO L).2 (.inr (.inl rfl))))⟩,fun e=>by
    obtain ⟨c,i1,i2⟩:=k.no e
    exact ⟨c,ixOff i1 ho hs1,heap_off i2 ho (fun e=>hs L e ((k.eqO L).2 (.inr (.inl rfl))))⟩⟩
  lt:=fun {O w x k} h hk=>by
   obtain ⟨O1,hh⟩:=h
   rcases (hh.eqO k).1 hk with e|e|e
   · cases hx:al x with
     |true=>exact ivLt (hh.yes hx).1 e
     |false=>obtain ⟨c,i1,_⟩:=hh.no hx;exact ixLt i1 e
   · rw [e]
     cases hx:al x with
     |true=>exact (Array.getElem?_eq_some_iff.1 (hh.yes hx).2).1
     |false=>obtain ⟨c,_,i2⟩:=hh.no hx;exact (Array.getElem?_eq_some_iff.1 i2).1
   · rw [e];exact (Array.getElem?_eq_some_iff.1 hh.df).1
  call:=fun {W O x ev vs} h hxr hv=>by
   obtain ⟨hx,hr1⟩:=hxr
   obtain ⟨O1,hh⟩:=h
   obtain ⟨hiv,hl⟩:=hh.yes hx
   have hy:=run_yield (P:=Tryz.prog) (args:=vs) hl (by rw [hrec];exact hlen hv)
   rw [hrec] at hy
   have hltL:L<W.heap.size:=(Array.getElem?_eq_some_iff.1 hl).1
   have hltD:D<W.heap.size:=(Array.getElem?_eq_some_iff.1 hh.df).1
   have hO1lt:∀k,O1 k→k<W.heap.size:=fun k e=>ivLt hiv e
   refine ⟨fn,_,assign,body,hy,roundIn_of_wpIn hfn (wpIn_mono (hround L x ev vs W O1 hO1lt hltL hh.nL hx hr1 (argOff (S:=fun _=>False) hv (Off.refl _ _) (fun _=>False.elim) (fun k e=>(hh.eqO k).2 (.inl e)))) ?_)⟩
   clear hy
   rintro ex a1 V1 hA
   cases ex with
   |exit id=>exact hA.elim
   |goto t=>exact hA.elim
   |ret=>exact hA.elim
   |panic ch=>exact hA.elim
   |outgrown=>exact hA.elim
   |normal=>
   obtain ⟨hbA,hA⟩:=hA
   have hl1:V1.heap[L]? =some (.loop (rec .ready none)):=heap_off hl (S:=fun _=>False) (Off.of_below hbA) id
   have hd1:V1.heap[D]? =some (.deferred (some [])):=heap_off hh.df (S:=fun _=>False) (Off.of_below hbA) id
   have hsA:=hbA.size
   refine ⟨_,run_beginRound hl1 (by rw [hrec]),?_⟩
   have hlt:L<V1.heap.size:=by omega
   have hbusy:=off_putObj V1 (l:=L) (.loop {rec .ready none with state:=.busy})
   have hl2:(V1.putObj L (.loop {rec .ready none with state:=.busy})).heap[L]? =some (.loop {rec .ready none with state:=.busy}):=World.putObj_heap_same hlt
   have hoffA:Off (fun k=>O k) W (V1.putObj L (.loop {rec .ready none with state:=.busy})):=((Off.of_below hbA).mono (S':=fun k=>O k) (fun _=>False.elim)).trans (hbusy.mono fun k e=>by rw [e];exact (hh.eqO L).2 (.inr (.inl rfl)))
   have hb2:=hA _ hbusy (ivOff (ivOff hiv (Off.of_below (S:=fun _=>False) hbA) (fun _=>False.elim)) hbusy (fun k e e2=>hh.nL (by rw [←e];exact e2))) (argOff hv hoffA (fun k e=>e) (fun k e=>(hh.eqO k).2 (.inl e)))
   have hd2:(V1.putObj L (.loop {rec .ready none with state:=.busy})).heap[D]? =some (.deferred (some [])):=heap_off hd1 hbusy (fun e=>hLD e.symm)
   have hsz2:(V1.putObj L (.loop {rec .ready none with state:=.busy})).heap.size=V1.heap.size:=by simp
   have hoffW:Off (· =L) W (V1.putObj L (.loop {rec .ready none with state:=.busy})):=((Off.of_below hbA).mono (S':=(· =L)) (fun _=>False.elim)).trans hbusy
   generalize V1.putObj L (.loop {rec .ready none with state:=.busy})=Wb at *
   refine wpIn_mono hb2 ?_
   have hal2:=hal x ev hx
   generalize f x ev=y at *
   have fin:∀(jump:Option Code) (W3:World),Off (fun k=>O1 k∨W.heap.size≤k) Wb W3→
    (Instr.endRound L jump).run Tryz.prog W3=.ok (.bool jump.isNone) (W3.putObj L (.loop (rec (if jump.isNone then .ready else .done) jump)))∧
    (W3.putObj L (.loop (rec (if jump.isNone then .ready else .done) jump))).heap[L]? =some (.loop (rec (if jump.isNone then .ready else .done) jump))∧
    (W3.putObj L (.loop (rec (if jump.isNone then .ready else .done) jump))).heap[D]? =some (.deferred (some []))∧Off (· =L) W3 (W3.putObj L (.loop (rec (if jump.isNone then .ready else .done) jump))):=fun jump W3 ho3=>by
    have hl3:=heap_off hl2 ho3 (fun e=>e.elim hh.nL (fun e=>by omega))
    have:=run_endRound (P:=Tryz.prog) jump hl3
    rw [hrec] at this ⊢
    exact ⟨this,World.putObj_heap_same (Array.getElem?_eq_some_iff.1 hl3).1,heap_off (heap_off hd2 ho3 (fun e=>e.elim hh.nD (fun e=>by omega))) (off_putObj W3 _) (fun e=>hLD e.symm),off_putObj W3 _⟩
   have hoff:∀{W3 W4:World},Off (fun k=>O1 k∨W.heap.size≤k) Wb W3→Off (· =L) W3 W4→Off O W W4:=fun h3 h4=>by
    have e1:Off O W Wb:=hoffW.mono (fun k e=>by rw [e];exact (hh.eqO L).2 (.inr (.inl rfl)))
    refine (e1.late h3 fun i hl hi=>hi.elim (fun e=>(hh.eqO i).2 (.inl e)) (fun e=>by omega)).trans (h4.mono (fun k e=>by rw [e];exact (hh.eqO L).2 (.inr (.inl rfl))))
   have hgrow:∀{O':Nat→Prop},(∀k,O' k→O1 k∨own vs k∨W.heap.size≤k)→¬O' L∧¬O' D∧∀k,(O' k∨k=L∨k=D)→O k∨own vs k∨W.heap.size≤k:=fun hO'=>
    ⟨fun e=>(hO' L e).elim hh.nL (fun e=>e.elim (fun e=>argOwn hv e ((hh.eqO L).2 (.inr (.inl rfl)))) (fun e=>by omega)),fun e=>(hO' D e).elim hh.nD (fun e=>e.elim (fun e=>argOwn hv e ((hh.eqO D).2 (.inr (.inr rfl)))) (fun e=>by omega)),fun k e=>by
     rcases e with e|e
     · exact (hO' k e).imp (fun e=>(hh.eqO k).2 (.inl e)) id
     · exact .inl ((hh.eqO k).2 (.inr e))⟩
   have stop:∀(c:Code) (W3:World) (O':Nat→Prop),al y.1=false→Ix c W3 O' y.1→Off (fun k=>O1 k∨W.heap.size≤k) Wb W3→(∀k,O' k→O1 k∨own vs k∨W.heap.size≤k)→∃v w',(Instr.endRound L (some c)).run Tryz.prog W3=.ok v w'∧VsG (fun w O x=>∃O1,LpAt al Iv Ix rec L D w O x O1) (own vs) W O y (.returned v) w':=fun c W3 O' hf hix ho3 hO'=>by
    obtain ⟨e1,e2,e3,e4⟩:=fin (some c) W3 ho3
    obtain ⟨n1,n2,n3⟩:=hgrow hO'
    refine ⟨_,_,e1,fun k=>O' k∨k=L∨k=D,by rw [hal2,hf];rfl,⟨O',fun k=>Iff.rfl,n1,n2,e3,(fun e=>by rw [hf] at e;cases e),fun _=>⟨c,ixOff hix e4 (fun k e e2=>n1 (by rw [←e];exact e2)),e2⟩⟩,hoff ho3 e4,n3⟩
   rintro e a3 W3 hp
   cases e with
   | normal=>
     obtain ⟨hf,O',hix,ho3,hO'⟩:=hp
     obtain ⟨e1,e2,e3,e4⟩:=fin none W3 ho3
     obtain ⟨n1,n2,n3⟩:=hgrow hO'
     exact ⟨_,_,e1,fun k=>O' k∨k=L∨k=D,by rw [hal2,hf];rfl,⟨O',fun k=>Iff.rfl,n1,n2,e3,fun _=>⟨ivOff hix e4 (fun k e e2=>n1 (by rw [←e];exact e2)),e2⟩,(fun e=>by rw [hf] at e;cases e)⟩,hoff ho3 e4,n3⟩
   |ret=>obtain ⟨hf,O',hix,ho3,hO'⟩:=hp;exact stop .ret W3 O' hf hix ho3 hO'
   |exit id=>obtain ⟨hf,O',hix,ho3,hO'⟩:=hp;exact stop (.exit id) W3 O' hf hix ho3 hO'
   |goto t=>obtain ⟨hf,O',hix,ho3,hO'⟩:=hp;exact stop (.goto t) W3 O' hf hix ho3 hO'
   |panic ch=>exact hp.elim
   |outgrown=>exact hp.elim}
 refine ⟨L,[{target:=.collected w.heap.size,args:=#[]}],W1,{target:=.fn (.func F) lb,args:=#[.func (.yield L) #[] #[]]},W1,F,
  #[.func (.yield L) #[] #[]] ++ lb,W1,?_,?_,?_,?_,fun _=>by omega,?_⟩
 · rw [←hW1,hrec,←hL];exact run_enterLoop_outer _ _ _ _ _
 · simp only [resolve,hg]
   simp [go_sem]
 · intro f' hf';trivial
 · simp [invoke,go_sem,ent]
 · have hivY:Y.Iv W1 (fun k=>Ov k∨k=L∨k=D) x0:=⟨Ov,fun k=>Iff.rfl,fun e=>by have:=hVlt _ e;omega,fun e=>by have:=hVlt _ e;omega,by rw [←hD];exact hK1,fun _=>⟨ivOff hi (Off.of_below (S:=fun _=>False) hb1) (fun _=>False.elim),by rw [←hL];exact hL1⟩,fun e=>by rw [hx0] at e;cases e⟩
   have hsq:=hseq Y W1 _ hb1 hivY ⟨hx0,hN⟩ (fun k e=>by
    rcases e with e|e|e
    · exact .inl e
    · exact .inr (by omega)
    · exact .inr (by omega))
   refine (callsIn_wide.2 hsq).mono ?_
   rintro e W2 ⟨y,Ov',⟨v,rfl⟩,⟨O1,hh⟩,hrs,hof,hO'⟩
   have hofw:Off (fun k=>OS k∨Ov k) w W2:=((Off.of_below hb1).mono (fun _=>False.elim)).late hof fun i hl hi=>by
    rcases hi with e|e|e|e
    · exact .inl e
    · exact .inr e
    · omega
    · omega
   have hO1:∀k,O1 k→Ov k∨w.heap.size≤k:=fun k e=>by
    have:=hb1.size
    rcases hO' k ((hh.eqO k).2 (.inl e)) with (e2|e2|e2)|e2
    · exact .inl e2
    · exact .inr (by omega)
    · exact .inr (by omega)
    · exact .inr (by omega)
   have hs2:=hofw.size
   have endL:∀(st:LoopState) (pe:Option Code),W2.heap[L]? =some (.loop (rec st pe))→st≠.busy→∃W3,(Instr.endLoop L).run Tryz.prog W2=.ok pe W3∧Off (· =L) W2 W3:=fun st pe hl hst=>by
    have:=run_endLoop (P:=Tryz.prog) hl (by rw [hrec];exact hst)
    rw [hrec] at this
    exact ⟨_,this,off_putObj W2 _⟩
   cases hx:al y with
   | true=>
     obtain ⟨i1,i2⟩:=hh.yes hx
     obtain ⟨W3,e1,e2⟩:=endL _ _ i2 (by simp)
     refine ⟨none,W3,e1,?_⟩
     rw [hD]
     exact (hend D W3 O1 y (by omega) (heap_off hh.df e2 (fun e=>hLD e.symm)) (rsOff hrs hs2 (e2.mono fun k e=>e.trans hL.symm)) (hofw.late e2 fun i hl e=>by omega) hO1 hh.nD).1 hx (ivOff i1 e2 (fun k e e3=>hh.nL (by rw [←e];exact e3)))
   | false=>
     obtain ⟨c,i1,i2⟩:=hh.no hx
     obtain ⟨W3,e1,e2⟩:=endL _ _ i2 (by simp)
     refine ⟨some c,W3,e1,?_⟩
     rw [hD]
     exact (hend D W3 O1 y (by omega) (heap_off hh.df e2 (fun e=>hLD e.symm)) (rsOff hrs hs2 (e2.mono fun k e=>e.trans hL.symm)) (hofw.late e2 fun i hl e=>by omega) hO1 hh.nD).2 hx c (ixOff i1 e2 (fun k e e3=>hh.nL (by rw [←e];exact e3)))
set_option maxRecDepth 100000
set_option maxHeartbeats 4000000
open Go.RowKit Go.Maps
structure KsOf (f:Value→Option Value) (n:Nat) (xs:List Int):Prop where
 nd:xs.Nodup
 mem:∀k,k∈xs ↔ (f (.int .i64 k)).isSome=true
 len:xs.length=n
def argI (_:World) (_:Nat→Prop) (k:Int) (vs:Array Value):Prop:=vs=#[.int .i64 k]
def ownI (_:Array Value) (_:Nat):Prop:=False
theorem keys1_any {α:Type} {fy:α→Int→α×Bool} (Y:YldG fy argI ownI) (ht:∀x e,(fy x e).2=true) {w:World} {O:Nat→Prop} {x0:α} {b Mm n:Nat} {f:Value→Option Value}
 (hi0:Y.Iv w O x0) (hr0:Y.Rdy x0 n) (c0:w.cell? ⟨b,0,none⟩=some (.map (some Mm))) (hm:MapIs Tryz.prog 3 w Mm f n) (hk:∀key v,f key=some v→∃k,key=.int .i64 k) (hO:¬O b∧¬O Mm):
 Calls Tryz.prog 111 #[.func (.yield Y.l) #[] #[],.pointer (some ⟨b,0,none⟩)] w fun e w'=>∃(y:α) (O2:Nat→Prop),(∃v,e=.returned v)∧Y.Iv w' O2 y∧(∃xs,KsOf f n xs∧y=xs.foldl (fun a k=>(fy a k).1) x0)∧Off O w w'∧∀k,O2 k→O k∨w.heap.size≤k:=by
 have HI:=hJ hi0
 have l0:=lt_of_cell c0
 have HT:=hJ ht
 have HRD:=hJ hr0
 have HK:=hJ hk
 obtain ⟨w1,hrg,hit,hb1⟩:=MapIs.range hm Tryz.underlying112
 have hMr:=hit.lt
 have hMlt:=hm.lt
 have HIT:=hJ hit
 have HB:=hJ hb1
 have hO1:=hO.1
 have hO2:=hO.2
 have HYL:=hJ (fun k (hk:O k)=>Y.lt hi0 hk)
 clear hi0 hr0 ht hk hm hit hb1 hO hMr
 refine (callsIn_wide (n:=9)).1 ?_
 refine callsIn_of_wp Tryz.func111 rfl trivial ?_ rfl
 simp only [Tryz.ntmps111,List.size_toArray,List.length_cons,List.length_nil,Nat.reduceAdd,Nat.reduceSub,Array.replicate_succ,Array.replicate_zero,List.push_toArray,List.append_toArray,List.nil_append,List.cons_append]
 gi_wp2
 obtain ⟨Br,hBr⟩:∃g,w.heap.size=g:=⟨_,rfl⟩
 rw [hBr] at hrg HIT
 rw [hBr]
 have HBR:=hJ hBr
 have hbr:Mm≠Br:=by omega
 clear hrg hBr
 gi_loopw [3] (fun _ wr=>∃(left:Value→Prop) (cnt:Nat) (xs:List Int) (O1:Nat→Prop),ItIs Tryz.prog 3 wr Mm Br f left cnt∧Y.Iv wr O1 (xs.foldl (fun a k=>(fy a k).1) x0)∧Y.Rdy (xs.foldl (fun a k=>(fy a k).1) x0) cnt∧xs.Nodup∧(∀k,k∈xs ↔ ((f (.int .i64 k)).isSome=true∧¬left (.int .i64 k)))∧cnt+xs.length=n∧wr.cell? ⟨b,0,none⟩=some (.map (some Mm))∧(¬O1 b∧¬O1 Mm∧¬O1 Br)∧Off O w wr∧∀k,O1 k→O k∨w.heap.size≤k) (fun _ wr=>wr.rangeLeft Mm Br)
 case atStart=>
  refine ⟨_,n,[],O,HIT.out,Y.off HI.out (Off.of_below (S:=fun _=>False) HB.out) (fun _=>False.elim),HRD.out,List.nodup_nil,fun k=>by simp,by simp,(HB.out.cell (p:=⟨b,0,none⟩) l0).trans c0,⟨hO1,hO2,fun e=>by have:=HYL.out _ e;have:=HBR.out;omega⟩,(Off.of_below HB.out).mono (fun _=>False.elim),fun k=>.inl⟩
 case round=>
  obtain ⟨left,cnt,xs,O1,hit,hiv,hrd,hnd,hmem,hlen,hc,hno,hof,hgr⟩:=hrel
  have HIT2:=hJ hit
  have HIV:=hJ hiv
  have HRY:=hJ hrd
  have HND:=hJ hnd
  have HMEM:=hJ hmem
  have HNO:=hJ hno
  have HOF:=hJ hof
  have HGR:=hJ hgr
  have HC:=hJ hc
  have hnx:=hit.next hbr
  clear hit hiv hrd hnd hmem hc hno hof hgr HIT
  rcases hnx with ⟨h0,hno,hrun⟩|⟨key,val,w5,hf,hlf,hpos,⟨kl,hkl⟩,hrun,ho,hs5,hit5,hent⟩
  · have HN:=hJ hno
    clear hno
    gi_wp2
    go_end0
    refine ⟨_,O1,⟨_,rfl⟩,HIV.out,⟨xs,⟨HND.out,fun k=>?_,by omega⟩,rfl⟩,HOF.out,HGR.out⟩
    · rw [HMEM.out]
      refine ⟨fun h=>h.1,fun h=>⟨h,?_⟩⟩
      cases hv:f (.int .i64 k) with
      |none=>rw [hv] at h;cases h
      |some v=>exact HN.out _ v hv
  · obtain ⟨pk,rfl⟩:=HK.out key val hf
    have hnotin:pk ∉ xs:=fun h=>((HMEM.out pk).1 h).2 hlf
    have hiv5:=Y.off HIV.out ho (fun k e=>by rw [e];exact HNO.out.2.2)
    have hry:=HRY.out
    rw [show cnt=cnt-1+1 by omega] at hry
    have hcall:=Y.call (e:=pk) (vs:=#[.int .i64 pk]) hiv5 (Y.mono _ _ _ hry (by omega)) rfl
    have hst:=Y.step _ pk _ hry (HT.out _ _)
    have hm2:=HT.out (xs.foldl (fun a k=>(fy a k).1) x0) pk
    obtain ⟨y,hy⟩:∃y,fy (xs.foldl (fun a k=>(fy a k).1) x0) pk=y:=⟨_,rfl⟩
    have hfold:(xs ++ [pk]).foldl (fun a k=>(fy a k).1) x0=y.1:=by rw [List.foldl_append,←hy];rfl
    rw [hy] at hcall hm2 hst
    obtain ⟨y1,more⟩:=y
    simp only at hm2 hfold
    subst hm2
    obtain ⟨fn,tmps,assign,body,hyl,hR⟩:=hcall
    have HFO:=hJ hfold
    have HR:=hJ hR
    have HIT5:=hJ hit5
    have HO5:=hJ ho
    have HF:=hJ (And.intro hf hlf)
    have HNI:=hJ hnotin
    have HST:=hJ hst
    clear hfold hR hy hst hry hiv5 hit5 ho hf hlf hkl hnotin hs5
    gi_wp2
    refine HR.out.mono ?_
    rintro e W3 ⟨O2,rfl,hiv2,hof2,hgr2⟩
    simp only
    have HI2:=hJ hiv2
    have HOF2:=hJ hof2
    have HGR2:=hJ hgr2
    clear hiv2 hof2 hgr2 hyl HR
    gi_wp2
    have hlt5:=HIT5.out.lt
    have HIT6:=hJ (HIT5.out.off HOF2.out HNO.out.2.1 HNO.out.2.2)
    have hc5:=(HO5.out.cell (p:=⟨b,0,none⟩) (lt_of_cell HC.out) (fun e=>by have:=HBR.out;have:b=Br:=e;omega)).trans HC.out
    have hc6:=(HOF2.out.cell (p:=⟨b,0,none⟩) (lt_of_cell hc5) HNO.out.1).trans hc5
    have hno2:∀k,k<w5.heap.size→¬O1 k→¬O2 k:=fun k hk h1 h2=>by
     rcases HGR2.out k h2 with e|e|e
     · exact h1 e
     · exact e.elim
     · omega
    go_roundw
    case rel=>
     refine ⟨_,_,xs ++ [pk],O2,HIT6.out,by rw [HFO.out];exact HI2.out,by rw [HFO.out];exact HST.out,?_,fun k=>?_,by rw [List.length_append,List.length_singleton];omega,hc6,⟨hno2 _ (lt_of_cell hc5) HNO.out.1,hno2 _ hlt5.1 HNO.out.2.1,hno2 _ hlt5.2 HNO.out.2.2⟩,?_,fun k e=>?_⟩
     · rw [List.nodup_append]
       exact ⟨HND.out,by simp,fun a ha c hc=>by simp at hc;subst hc;exact fun e=>HNI.out (by rw [←e];exact ha)⟩
     · rw [List.mem_append,List.mem_singleton,HMEM.out]
       constructor
       · rintro (⟨h1,h2⟩|rfl)
         · exact ⟨h1,fun h=>h2 h.1⟩
         · exact ⟨by rw [HF.out.1];rfl,fun h=>h.2 rfl⟩
       · rintro ⟨h1,h2⟩
         by_cases h3:left (.int .i64 k)
         · right
           by_cases h4:(Value.int .i64 k)=.int .i64 pk
           · injection h4
           · exact absurd ⟨h3,h4⟩ h2
         · exact .inl ⟨h1,h3⟩
     · exact (HOF.out.late HO5.out fun i hi e=>by have:=HBR.out;have:i=Br:=e;omega).late HOF2.out fun i hi e=>(HGR.out i e).elim id (fun e=>by omega)
     · rcases HGR2.out k e with e|e|e
       · exact HGR.out k e
       · exact e.elim
       · have:=HOF.out.size;have:=HO5.out.size;exact .inr (by omega)
    case measure=>rw [HIT6.out.left_eq,HIT2.out.left_eq];omega
end Go.Proofs.YtlhfjaagkgengaaGreat
