/- almanaclaw16: a step, whatever the act. SpacePlays, walked. SpaceShares: what the law needs of spaces that share pages. SpaceOf: plain; Of in a law's world. almanaclaw16: rightRegions. -/
import Derived.Test.YtlhfjaagkgengaaGreatPC03
import Derived.Test.YtlhfjaagkgengaaGreatPC48
import Derived.Test.YtlhfjaagkgengaaGreatPC47
import Derived.Test.YtlhfjaagkgengaaGreatPC29
import Derived.Test.YtlhfjaagkgengaaGreatPC15
import Derived.Test.YtlhfjaagkgengaaGreatPC27
namespace Go.Proofs.YtlhfjaagkgengaaGreat
set_option maxRecDepth 100000
open Go.RowKit Go.Maps
set_option linter.unusedVariables false
set_option linter.unusedSimpArgs false
section
variable {w0 w w' w1 w2:World} {o:WD} {t t':PSt ShS} {C C':Cu} {kk k U:Nat} {sp:List (Option Spc)} {P P':List (Option MPr)}
theorem step16_any (x:Ac16) (hx:x.In w0) (hf:x.far=false) (hU:U+x.m≤100000) (h:WS w0 w o t C (kk+(8192+2*x.m+(o.d.n+1))) U sp P):
 Calls Tryz.prog 22 #[.pointer (some ⟨o.W,0,none⟩),.agg #[.int .i64 x.a,.int .i64 x.kind,.int .i64 x.pid,.int .i64 x.at_,.int .i64 x.n,.int .i64 x.prot,.slice x.A x.m x.c]] w (StPost16 w0 o kk (U+x.m) sp):=by
 have hl:=hx.by_.1
 have hA:∀g o',0<x.m→x.A=some ⟨g,o',none⟩→g<w0.heap.size:=fun g o' hp e=>by
  obtain ⟨b,o2,e2,hb,_⟩:=hx.by_.2 hp
  rw [e] at e2
  cases e2
  exact hb
 have hS:=hx.by_.low (V:=w) hA jB h.b.bel
 have e1:x.m=x.d.length:=hl.symm
 refine step16_all x.m x.a x.kind x.pid x.at_ x.n x.prot x.A x.m x.c e1 (by omega) (by omega) (by have:=hx.le;omega) (by omega) (fun k5 hc=>?_) hS hA (h.less (by omega) jN)
 unfold Ac16.far at hf
 rw [decide_eq_true k5,decide_eq_true hc.1,decide_eq_true hc.2] at hf
 cases hf
end
set_option maxRecDepth 100000
theorem few16_at {L:List Ac16} (h:few16B L=true):L.length≤100∧sumR (L.map Ac16.op)≤16384∧∀x∈L,x.far=false:=by
 unfold few16B fewR at h
 rw [Bool.and_eq_true,Bool.and_eq_true,Bool.and_eq_true,decide_eq_true_eq,decide_eq_true_eq,decide_eq_true_eq,List.all_eq_true] at h
 obtain ⟨h1,h2,_,h3⟩:=h
 refine ⟨h1,h3,fun x hx=>?_⟩
 have:=h2 x.op (List.mem_map.2 ⟨x,hx,rfl⟩)
 cases e:x.far with
 |false=>rfl
 | true=>
   have e2:x.op.far=x.far:=rfl
   rw [e2,e] at this
   cases this
theorem Ac16.In.up {x:Ac16} {w w':World} (h:x.In w) (hb:Below w.heap.size w w'):x.In w':=⟨h.by_.up hb,h.le⟩
set_option maxRecDepth 100000
theorem SlOf.uniq {m:Pm} {n n':Nat} {L L':List (Int×Int)} (h:SlOf m n L) (h':SlOf m n' L'):L=L':=by
 have key:∀{n:Nat} {L:List (Int×Int)},SlOf m n L→L=(L.map (·.1)).map fun k=>(k,(m k).getD 0):=fun {n L} h=>by
  rw [List.map_map]
  have:∀x∈L,x=((fun k=>(k,(m k).getD 0)) ∘ fun x:Int×Int=>x.1) x:=fun x hx=>by
   have:=(h.mem x.1 x.2).1 hx
   show x=(x.1,(m x.1).getD 0)
   rw [this]
   rfl
  exact (List.map_id L).symm.trans (List.map_congr_left this)
 rw [key h,key h']
 congr 1
 refine rising_eq (by rw [List.pairwise_map];exact h.up) (by rw [List.pairwise_map];exact h'.up) fun x=>?_
 have hx:∀{n:Nat} {L:List (Int×Int)},SlOf m n L→(x∈L.map (·.1) ↔ (m x).isSome=true):=fun {n L} h=>by
  rw [List.mem_map]
  constructor
  · rintro ⟨y,hy,rfl⟩
    rw [(h.mem y.1 y.2).1 hy]
    rfl
  · intro e
    cases hm:m x with
    |none=>rw [hm] at e;cases e
    |some id=>exact ⟨(x,id),(h.mem x id).2 hm,rfl⟩
 rw [hx h,hx h']
section
variable {σ:Type} {K:SnkF σ} {M:Snk K} {P:PSnk K} {w w':World} {d:PD} {t t':PSt σ} {C C':Cu} {k k':Nat} {l l':List Spc}
end
set_option maxRecDepth 100000
theorem right_lo {ps:Nat} {L:List Rg} (h:rightL ps L=true) {x:Int} (hf:findB L x=true):0≤x:=by
 unfold findB at hf
 rw [List.any_eq_true] at hf
 obtain ⟨r,hr,hx⟩:=hf
 have hx:=of_decide_eq_true hx
 obtain ⟨i,hi⟩:=List.mem_iff_getElem?.1 hr
 unfold rightL at h
 rw [List.all_eq_true] at h
 have h1:=h i (by simp;exact (jS.1 hi).1)
 unfold goodAt at h1
 rw [hi] at h1
 simp only [Bool.and_eq_true] at h1
 have h2:=h1.1
 unfold goodS at h2
 rw [Bool.and_eq_true] at h2
 have:=of_decide_eq_true h2.1
 omega
def lastG (l:List (Int×Int)):Nat→Int
 |0=> -1
 | k+1=>match l[k]? with
   |none=> -1
   |some y=>y.1
def slotG (C:Cu) (L:List Rg) (l:List (Int×Int)) (i:Nat):Bool:=match l[i]? with
 |none=>true
 |some x=>(findB L x.1 && decide (lastG l i<x.1)) && (C x.2).isSome
def goodG (C:Cu) (R:Bool) (L:List Rg) (l:List (Int×Int)) (j:Nat):Bool:=R && (List.range j).all (slotG C L l)
theorem goodG_zero {C:Cu} {R:Bool} {L:List Rg} {l:List (Int×Int)}:goodG C R L l 0=R:=by unfold goodG;simp
theorem goodG_succ {C:Cu} {R:Bool} {L:List Rg} {l:List (Int×Int)} {j:Nat} {x:Int×Int} (h:l[j]? =some x):goodG C R L l (j+1)=(goodG C R L l j && ((findB L x.1 && decide (lastG l j<x.1)) && (C x.2).isSome)):=by
 unfold goodG
 rw [List.range_succ,List.all_append,List.all_cons,List.all_nil,Bool.and_true,Bool.and_assoc]
 congr 2
 unfold slotG
 rw [h]
theorem lastG_succ {l:List (Int×Int)} {j:Nat} {x:Int×Int} (h:l[j]? =some x):lastG l (j+1)=x.1:=by
 simp only [lastG,h]
theorem slotG_iff {ps:Nat} {C:Cu} {L:List Rg} {l:List (Int×Int)} {i:Nat} {x:Int×Int} (hR:rightL ps L=true) (hx:l[i]? =some x):slotG C L l i=true ↔ slotB L l i=true∧(C x.2).isSome=true:=by
 unfold slotG slotB
 rw [hx]
 simp only [Bool.and_eq_true,decide_eq_true_eq]
 constructor
 · rintro ⟨⟨h1,h2⟩,h3⟩
   refine ⟨⟨h1,?_⟩,h3⟩
   cases i with
   |zero=>rfl
   | succ k=>
     cases hy:l[k]? with
     |none=>simp only [hy]
     |some y=>rw [lastG_succ hy] at h2;simp only [hy];exact decide_eq_true h2
 · rintro ⟨⟨h1,h2⟩,h3⟩
   refine ⟨⟨h1,?_⟩,h3⟩
   have h0:=right_lo hR h1
   cases i with
   |zero=>show (-1:Int)<x.1;omega
   | succ k=>
     cases hy:l[k]? with
     |none=>simp only [lastG,hy];omega
     |some y=>rw [lastG_succ hy];simp only [hy] at h2;exact of_decide_eq_true h2
theorem goodG_all {ps rg:Nat} {C:Cu} {L:List Rg} {l:List (Int×Int)}:goodG C (rightL ps L && decide (L.length≤rg)) L l l.length=(shapedB ps rg L l && !(l.any fun x=>(C x.2).isNone)):=by
 unfold goodG shapedB
 cases hR:rightL ps L with
 |false=>rfl
 | true=>
   rw [Bool.eq_iff_iff]
   simp only [Bool.and_eq_true,Bool.true_and,Bool.not_eq_true',List.all_eq_true,List.any_eq_false,decide_eq_true_eq,List.mem_range]
   constructor
   · rintro ⟨h1,h2⟩
     refine ⟨⟨h1,fun i hi=>?_⟩,fun x hx e=>?_⟩
     · exact ((slotG_iff hR (jE hi)).1 (h2 i hi)).1
     · obtain ⟨i,hi⟩:=List.mem_iff_getElem?.1 hx
       have:=((slotG_iff hR hi).1 (h2 i (jS.1 hi).1)).2
       cases hc:C x.2 with
       |none=>rw [hc] at this;cases this
       |some p=>rw [hc] at e;cases e
   · rintro ⟨⟨h1,h2⟩,h3⟩
     refine ⟨h1,fun i hi=>?_⟩
     have hx:=jE hi
     refine (slotG_iff hR hx).2 ⟨h2 i hi,?_⟩
     have:=h3 _ (jG hx)
     cases hc:C (l[i]).2 with
     |none=>rw [hc] at this;exact absurd rfl this
     |some p=>rfl
theorem any_snoc {L:List Rg} {k:Nat} {r:Rg} {x:Int} (h:L[k]? =some r):findB (L.take (k+1)) x=(findB (L.take k) x||decide (r.lo≤x∧x<r.hi)):=by
 unfold findB
 rw [List.take_add_one,h,List.any_append]
 simp
theorem shaped_sl {ps rg n:Nat} {L:List Rg} {m:Pm} {l:List (Int×Int)} (hR:rightL ps L=true) (hLn:L.length≤rg) (hF:∀i id,m i=some id→findB L i=true) (hl:SlOf m n l):shapedB ps rg L l=true:=by
 refine shaped_yes hR hLn fun i hi=>?_
 obtain ⟨x,hx⟩:∃x,l[i]? =some x:=⟨_,jE hi⟩
 have hfx:=hF x.1 x.2 ((hl.mem x.1 x.2).1 (jG hx))
 cases i with
 |zero=>exact slot_zero hx hfx
 | succ j=>
   obtain ⟨y,hy⟩:∃y,l[j]? =some y:=⟨_,jE (by omega)⟩
   rw [slot_succ hx hy hfx]
   have a1:=jS.1 hx
   have a2:=jS.1 hy
   have:=List.pairwise_iff_getElem.1 hl.up j (j+1) a2.1 a1.1 (by omega)
   rw [a1.2,a2.2] at this
   exact decide_eq_true this
section
variable {w0 w w' w1 w2:World} {o:WD} {t t':PSt ShS} {C C':Cu} {kk k k0 U:Nat} {s:Spc} {l:List Spc} {P:List (Option MPr)} {Q:List (Option Nat)} {T:Option Spc} {cf:Nat→Int}
def OfW (w0 w:World) (o:WD) (t:PSt ShS) (C:Cu) (kk:Nat) (s:Spc) (l:List Spc) (P:List (Option MPr)) (Q:List (Option Nat)) (e:Ending) (w':World):Prop:=
 ∃X Mm A' cap' t',e=.returned (.tuple #[.pointer (some ⟨X,0,none⟩),.int .i64 0])∧WB w0 w' o t' (kpC C s.m) kk (⟨⟨X,Mm,o.d.Q,s.D.cf,s.D.pg,s.D.rg,s.D.ps⟩,A',cap',s.L,s.m,s.n⟩::s::l) P Q∧Off (swO o.d t (s::l)) w w'
theorem WB.of (h:WB w0 w o t C kk (s::l) P Q) (hr:RgOk s) (hn:s.n≤100000) (hl:l.length<900) {AL:Option Addr} {cL:Nat} (hL:RgAt w AL s.L) (hLO:∀q,rgO AL s.L.length q→¬Own o.d t q) {B:Option Addr} {cB:Nat} {sl:List (Int×Int)} (hsl:SlOf s.m s.n sl) (hB:EAt slE w B sl) (hBO:∀q,eO B sl.length q→¬Own o.d t q):
 Calls Tryz.prog 23 #[cfgV s.D.cf,.pointer (some ⟨o.d.Q,0,none⟩),.slice AL s.L.length cL,.slice B s.n cB] w (OfW w0 w o t C kk s l P Q):=by
 have g:=h.lw.sw.ss s jM
 have hi:=h.lw.sw.inj s jM
 have hll:sl.length=s.n:=hsl.len
 have b8:=g.ok.b8
 have hof:=of_b (B:=B) (l:=sl) (cf:=s.D.cf) (pg:=s.D.pg) (rg:=s.D.rg) (ps:=s.D.ps) g.pv ⟨g.ok.e4,g.ok.e7,g.ok.e8,g.ok.b4,g.ok.b7,g.ok.b8⟩ g.z cL cB hL g.len hB (by omega)
  (fun x hx=>⟨by have:=hr.rng x.1 x.2 ((hsl.mem x.1 x.2).1 hx);unfold i64R;omega,by
   obtain ⟨p,hp⟩:=g.has x.1 x.2 ((hsl.mem x.1 x.2).1 hx)
   exact g.pv.idb hp⟩) (fun x hx b u hc=>by have:=h.lw.sw.use jM ((hsl.mem x.1 x.2).1 hx) hc;omega) hLO hBO
 rw [hll] at hof
 refine hof.mono ?_
 rintro e w' (⟨hbad,rfl,_⟩|⟨h1,h2,X,Mm,A',cap',t',rfl,hss,hnx,he,hnew⟩)
 · exfalso
   rcases hbad with hb|hb
   · rw [shaped_sl hr.right hr.len hr.has hsl] at hb;cases hb
   · rw [List.any_eq_true] at hb
     obtain ⟨x,hx,hx2⟩:=hb
     obtain ⟨p,hp⟩:=g.has x.1 x.2 ((hsl.mem x.1 x.2).1 hx)
     rw [hp] at hx2
     cases hx2
 · rw [keepC_of hsl hi,slF_of hsl,hll] at hss
   obtain ⟨h1,h2⟩:=h.lw.sw.more (s':=⟨⟨X,Mm,o.d.Q,s.D.cf,s.D.pg,s.D.rg,s.D.ps⟩,A',cap',s.L,s.m,s.n⟩) hnx hss (h.lw.sw.us.kp (List.mem_map.2 ⟨s,jM,rfl⟩)) hi hnew (by rw [List.length_cons];omega)
   exact ⟨X,Mm,A',cap',t',rfl,h.sw (h.lw.go h1 h2) h2,h2.off⟩
structure OfR (w0 w:World) (o:WD) (t:PSt ShS) (C:Cu) (k:Nat) (T:Option Spc):Prop where
 bel:Below w0.heap.size w0 w
 pv:∃C',Pv (shM o.S) shP w o.d t C' k∧∀id,(C' id).isSome=(C id).isSome
 rm:shP.room t.s<0
 c9:w.cell? ⟨o.W,9,none⟩=some (.pointer (some ⟨o.d.Q,0,none⟩))
 nW:¬Own o.d t o.W
 new:∀q,Own o.d t q→w0.heap.size≤q
 sp:∀x,T=some x→SpAt w x.D x.A x.cap x.L x.m x.n∧∀q,x.ow q→¬Own o.d t q
theorem OfR.up (h:OfR w0 w o t C k T) (hb:Below w.heap.size w w'):OfR w0 w' o t C k T:=by
 obtain ⟨C',hv,hc⟩:=h.pv
 exact ⟨h.bel.trans (hb.mono h.bel.size),⟨C',hv.up hb,hc⟩,h.rm,(hb.cell (p:=⟨o.W,9,none⟩) (lt_of_cell h.c9)).trans h.c9,h.nW,h.new,fun x hx=>⟨(h.sp x hx).1.up hb,(h.sp x hx).2⟩⟩
theorem OfR.less (h:OfR w0 w o t C k T) {k':Nat} (hk:k'≤k):OfR w0 w o t C k' T:=by
 obtain ⟨C',hv,hc⟩:=h.pv
 exact ⟨h.bel,⟨C',hv.less shK_good hk,hc⟩,h.rm,h.c9,h.nW,h.new,h.sp⟩
theorem OfR.next (h:OfR w0 w o t C k0 T) {C':Cu} (hv:Pv (shM o.S) shP w' o.d t' C' k) (hc:∀id,(C' id).isSome=(C id).isSome) (hx:Nx shP w w' o.d t t'):OfR w0 w' o t' C k T:=by
 have lW:=lt_of_cell h.c9
 have hz:=h.bel.size
 refine ⟨h.bel.trans (hx.off.below h.new hz),⟨C',hv,hc⟩,hx.rm h.rm,(hx.off.cell (p:=⟨o.W,9,none⟩) lW h.nW).trans h.c9,(hx.keep lW h.nW).2,fun q hq=>?_,fun x hx2=>?_⟩
 · rcases hx.own q hq with e|e
   · exact h.new q e
   · omega
 · obtain ⟨h1,h2⟩:=h.sp x hx2
   exact ⟨h1.off hx.off fun q e hq=>h2 q hq e,fun q hq=>(hx.keep (h1.lt hq) (h2 q hq)).2⟩
theorem OfR.read (h:OfR w0 w o t C (k+1) T) {id:Int} (hid: -9223372036854775808≤id∧id≤9223372036854775807):
 Calls Tryz.prog 27 #[.pointer (some ⟨o.d.Q,0,none⟩),.int .i64 id,.int .i64 0,.int .i64 0] w fun e w'=>∃v t',e=.returned (.tuple #[v,.int .i64 (if (C id).isSome then 0 else 2)])∧OfR w0 w' o t' C k T:=by
 obtain ⟨C',hv,hc⟩:=h.pv
 have hci:=hc id
 cases hC:C' id with
 | none=>
   rw [hC] at hci
   refine (pv_read_none shK_good shP_miss hv hC hid (off:=0) (n:=0)).mono ?_
   rintro e w' ⟨t',rfl,hv',hx,_⟩
   rw [←hci]
   exact ⟨_,t',rfl,h.next hv' hc hx⟩
 | some p=>
   obtain ⟨b,u⟩:=p
   rw [hC] at hci
   refine (pv_read shK_good shP_miss hv hC (off:=0) (n:=0) (by omega)).mono ?_
   rintro e w' ⟨t',hv',hx,_,_,hcc⟩
   rcases hcc with ⟨A,c,rfl,_⟩|⟨_,hn⟩
   · rw [←hci]
     exact ⟨_,t',rfl,h.next hv' hc hx⟩
   · exact absurd h.rm hn
def Of2Post (w0:World) (o:WD) (C:Cu) (kk:Nat) (z:Bool) (nL nl:Nat) (e:Ending) (w':World):Prop:=
 ∃(t':PSt ShS) (T:Option Spc),e=.returned (.tuple #[.pointer (T.map fun s=>⟨s.D.X,0,none⟩),.int .i64 (if z then 0 else 22)])∧OfR w0 w' o t' C kk T∧T.isSome=z∧∀x,T=some x→x.L.length=nL∧x.n=nl
theorem WB.of2 {pg rg ps:Nat} (h:WB w0 w o t C kk l P Q) (hD:(SpD.mk 0 0 o.d.Q cf pg rg ps).Ok) (hz:pg=o.d.z) {A B:Option Addr} (cA cB:Nat) {L:List Rg} {l2:List (Int×Int)} (hL:RgAt w A L) (hn:L.length≤10000) (hB:EAt slE w B l2) (hln:l2.length≤100000) (hid:∀x∈l2,i64R x.1∧i64R x.2)
 (hLo:∀q,rgO A L.length q→q<w0.heap.size) (hBo:∀q,eO B l2.length q→q<w0.heap.size):
 Calls Tryz.prog 23 #[cfgV cf,.pointer (some ⟨o.d.Q,0,none⟩),.slice A L.length cA,.slice B l2.length cB] w (Of2Post w0 o C kk (shapedB ps rg L l2 && !(l2.any fun x=>(C x.2).isNone)) L.length l2.length):=by
 have hown:∀q,q<w0.heap.size→¬Own o.d t q:=fun q hq e=>by have:=h.lw.own q (.inl e);omega
 have hpo:∀q,Own o.d t q→w0.heap.size≤q:=fun q hq=>h.lw.own q (.inl hq)
 have hbase:OfR w0 w o t C kk none:=⟨h.bel,⟨C,h.lw.sw.pv,fun _=>rfl⟩,h.lw.rm,h.c9,fun e=>h.s2 o.W (.inl rfl) (.inl e),hpo,fun x hx=>(by cases hx)⟩
 refine (of_b h.lw.sw.pv hD hz cA cB hL hn hB hln hid (fun x hx b u hc=>?_) (fun q hq=>hown q (hLo q hq)) (fun q hq=>hown q (hBo q hq))).mono ?_
 · have:=(h.lw.sw.us.got hc).1
   have:=cntI_le (l.map (·.m)) x.2
   rw [List.length_map] at this
   have:=h.lw.sw.num
   omega
 rintro e w' (⟨hbad,rfl,hb⟩|⟨h1,h2,X,Mm,A',cap',t',rfl,hss,hnx,he,hnew⟩)
 · have hz0:(shapedB ps rg L l2 && !(l2.any fun x=>(C x.2).isNone))=false:=by
    rcases hbad with e|e<;>rw [e]
    · rfl
    · exact Bool.and_false _
   rw [hz0]
   exact ⟨t,none,rfl,hbase.up hb,rfl,fun x hx=>by cases hx⟩
 · rw [h1,h2]
   refine ⟨t',some ⟨⟨X,Mm,o.d.Q,cf,pg,rg,ps⟩,A',cap',L,slF l2,l2.length⟩,rfl,?_,rfl,fun x hx=>by cases hx;exact ⟨rfl,rfl⟩⟩
   have hr:=hbase.next hss.pv (fun id=>by
    obtain ⟨n,_,hk⟩:=keepC_take C l2 l2.length id
    rw [List.take_length] at hk
    rw [hk,Option.isSome_map]) hnx
   exact ⟨hr.bel,hr.pv,hr.rm,hr.c9,hr.nW,hr.new,fun x hx=>by
    cases hx
    exact ⟨hss.sp,hss.sep⟩⟩
end
theorem eq_sl (a b c d:Int) (w:World):(Op.equalIn 10000 59 (.agg #[.int .i64 a,.int .i64 b]) (.agg #[.int .i64 c,.int .i64 d])).run Tryz.prog w=.ok (decide (a=c∧b=d)) w:=by
 have h:(Op.equalIn 10000 59 (.agg #[.int .i64 a,.int .i64 b]) (.agg #[.int .i64 c,.int .i64 d])).run Tryz.prog w=.ok (a==c && b==d) w:=by
  rw [run_equalIn_agg (P:=Tryz.prog) w 9999 59 _ _ (by kernel_rfl) (by kernel_rfl)]
  cases h1:a==c<;>cases h2:b==d<;>simp [go_sem,h1,h2]<;>simp_all
 have h2:(a==c && b==d)=decide (a=c∧b=d):=by
  rw [Bool.eq_iff_iff]
  simp
 rw [h,h2]
set_option maxRecDepth 100000
set_option maxHeartbeats 8000000 in
theorem rightRg_any (W:World) {A:Option Addr} (c:Nat) {L:List Rg} (hL:RgAt W A L) (hn:L.length≤100000) {cf:Nat→Int} {ps rg:Nat} (e7:cf 7=(rg:Nat)) (e8:cf 8=(ps:Nat)):
 Calls Tryz.prog 26 #[.slice A L.length c,cfgV cf] W fun e w'=>e=.returned (.bool (rightL ps L && decide (L.length≤rg)))∧Below W.heap.size W w':=by
 have HL0:=hJ hL
 obtain ⟨R,hR⟩:∃R,rightL ps L=R:=⟨_,rfl⟩
 rw [hR]
 have HNO0:Hid (∀j,j<L.length→goodAt ps L j=false→R=false):=hJ fun j h1 h2=>by rw [←hR];exact right_no h1 h2
 have HYES:Hid ((∀i,i<L.length→goodAt ps L i=true)→R=true):=hJ fun h=>by rw [←hR];exact right_yes h
 have E7:=hJ e7
 have E8:=hJ e8
 clear hL hR e7 e8
 unfold cfgV
 go_enter Tryz.func26,Tryz.ntmps26
 have HC:Hid (∀V,Below (W.alloc (.cells #[.int .i64 (cf 0),.int .i64 (cf 1),.int .i64 (cf 2),.int .i64 (cf 3),.int .i64 (cf 4),.int .i64 (cf 5),.int .i64 (cf 6),.int .i64 (cf 7),.int .i64 (cf 8)] 23)).heap.size (W.alloc (.cells #[.int .i64 (cf 0),.int .i64 (cf 1),.int .i64 (cf 2),.int .i64 (cf 3),.int .i64 (cf 4),.int .i64 (cf 5),.int .i64 (cf 6),.int .i64 (cf 7),.int .i64 (cf 8)] 23)) V→_):=hJ fun V hb=>cfg_cells hb
 go_wp2
 have hwa:Below W.heap.size W (W.alloc (.cells #[.int .i64 (cf 0),.int .i64 (cf 1),.int .i64 (cf 2),.int .i64 (cf 3),.int .i64 (cf 4),.int .i64 (cf 5),.int .i64 (cf 6),.int .i64 (cf 7),.int .i64 (cf 8)] 23)):=jB.alloc jN _
 generalize (W.alloc (.cells #[.int .i64 (cf 0),.int .i64 (cf 1),.int .i64 (cf 2),.int .i64 (cf 3),.int .i64 (cf 4),.int .i64 (cf 5),.int .i64 (cf 6),.int .i64 (cf 7),.int .i64 (cf 8)] 23))=wa at *
 have HWA:=hJ hwa
 have HCC:Hid (∀V,Below wa.heap.size wa V→V.cell? ⟨W.heap.size,7,none⟩=some (.int .i64 (rg:Nat))∧V.cell? ⟨W.heap.size,8,none⟩=some (.int .i64 (ps:Nat))):=hJ fun V hb=>by
  obtain ⟨c0,c1,c2,c3,c4,c5,c6,c7,c8⟩:=HC.out _ hb
  exact ⟨by rw [c7,E7.out],by rw [c8,E8.out]⟩
 have HL:=hJ (HL0.out.up hwa)
 clear hwa HC HL0 E7 E8
 go_loopw [5,4,6] (fun i _ _ wr=>∃(j:Nat),j≤L.length∧i=.int .i64 (j:Nat)∧Below wa.heap.size wa wr∧∀i,i<j→goodAt ps L i=true) (fun i _ _ _=>L.length-(intOf i).toNat)
 case atStart=>exact ⟨0,by omega,rfl,Below.refl _ _,fun i h=>by omega⟩
 case round=>
  obtain ⟨j,hj,rfl,hb,hok⟩:=hrel
  have HB:=hJ hb
  have HOK:=hJ hok
  by_cases hjn:j<L.length
  · have hrow:=HL.out.up hb
    obtain ⟨g,o,hA,hg,hc⟩:=hrow.at_ (by omega)
    obtain ⟨r,hr⟩:∃r,L[j]? =some r:=⟨_,jE hjn⟩
    obtain ⟨q0,q1,q2⟩:=hc j r hr
    have hjI:(j:Int)<(L.length:Int):=by omega
    have HNO:=hJ (HNO0.out j hjn)
    have HROW:=hJ hrow
    have HRJ:=hJ hr
    obtain ⟨ra,rb,rp⟩:=r
    have HA:=hJ hA
    simp only at q0 q1 q2
    rw [hA]
    clear hb hok hc hrow hr hA
    go_upto_region 5 with (fail)
    refine wp_forget (fun V=>Below wr.heap.size wr V∧Rg3 V wr.heap.size ra rb rp) ⟨jB.alloc jN _,Rg3.new wr ra rb rp 62⟩ ?_
    rintro V ⟨hbv,k7⟩
    obtain ⟨g7,hg7⟩:∃g,wr.heap.size=g:=⟨_,rfl⟩
    rw [hg7] at k7
    rw [hg7]
    have HBV:=hJ hbv
    have HBW:=hJ (HB.out.trans (hbv.mono HB.out.size))
    have HBX:=hJ (HWA.out.trans (HBW.out.mono HWA.out.size))
    obtain ⟨x0,x1,x2⟩:=k7
    have lx:=lt_of_cell x0
    obtain ⟨k7,k8⟩:=HCC.out _ HBW.out
    have lk:=lt_of_cell k8
    clear hbv q0 q1 q2 hg7 HB hg
    by_cases h1:ra<0
    · have HV:Hid (R=false):=hJ (HNO.out (good_s HRJ.out (by unfold goodS;rw [decide_eq_false (by simp only;omega)];rfl)))
      have hd1:decide (ra<0)=true:=decide_eq_true h1
      go_quiet (fail)
      go_wp2
      go_ret
      exact ⟨by rw [HV.out];rfl,below_drewN HBX.out _⟩
    have hd1:decide (ra<0)=false:=decide_eq_false h1
    by_cases h2:rb≤ra
    · have HV:Hid (R=false):=hJ (HNO.out (good_s HRJ.out (by unfold goodS;rw [decide_eq_false (by simp only;omega)];rfl)))
      have hd2:decide (rb≤ra)=true:=decide_eq_true h2
      go_quiet (fail)
      go_wp2
      go_ret
      exact ⟨by rw [HV.out];rfl,below_drewN HBX.out _⟩
    have hd2:decide (rb≤ra)=false:=decide_eq_false h2
    by_cases h3:(ps:Int)<rb
    · have HV:Hid (R=false):=hJ (HNO.out (good_s HRJ.out (by unfold goodS;rw [decide_eq_false (by simp only;omega)];rfl)))
      have hd3:decide ((ps:Int)<rb)=true:=decide_eq_true h3
      go_quiet (fail)
      go_wp2
      go_ret
      exact ⟨by rw [HV.out];rfl,below_drewN HBX.out _⟩
    have hd3:decide ((ps:Int)<rb)=false:=decide_eq_false h3
    by_cases h4:rp<0
    · have HV:Hid (R=false):=hJ (HNO.out (good_s HRJ.out (by unfold goodS protB;simp;omega)))
      have hd4:decide (rp<0)=true:=decide_eq_true h4
      go_quiet (fail)
      go_wp2
      go_ret
      exact ⟨by rw [HV.out];rfl,below_drewN HBX.out _⟩
    have hd4:decide (rp<0)=false:=decide_eq_false h4
    by_cases h5:3<rp
    · have HV:Hid (R=false):=hJ (HNO.out (good_s HRJ.out (by unfold goodS protB;simp;omega)))
      have hd5:decide (3<rp)=true:=decide_eq_true h5
      go_quiet (fail)
      go_wp2
      go_ret
      exact ⟨by rw [HV.out];rfl,below_drewN HBX.out _⟩
    have hd5:decide (3<rp)=false:=decide_eq_false h5
    have HGS:Hid (goodS ps ⟨ra,rb,rp⟩=true):=hJ (by unfold goodS protB;simp;omega)
    clear h1 h2 h3 h4 h5
    cases j with
    | zero=>
      have hz:decide ((0:Int)<((0:Nat):Int))=false:=by simp
      go_quiet (fail)
      go_wp2
      go_roundw
      case rel=>exact ⟨1,by omega,by go_num,(below_drewN HBW.out _),fun i hi=>by
       obtain rfl:i=0:=by omega
       exact good_z HRJ.out HGS.out⟩
      case measure=>simp [intOf];omega
    | succ k=>
      obtain ⟨y,hy⟩:∃y,L[k]? =some y:=⟨_,jE (by omega)⟩
      have HGK:=hJ (good_k HRJ.out hy HGS.out)
      obtain ⟨g',o',hA',hg',hc'⟩:=(HROW.out.up HBV.out).at_ (by omega)
      have hAA:=HA.out.symm.trans hA'
      injection hAA with hAA
      injection hAA with e1 e2
      subst e1 e2
      obtain ⟨z0,z1,z2⟩:=hc' k y hy
      obtain ⟨ya,yb,yp⟩:=y
      simp only at z0 z1 z2
      have hm:(0:Int)<((k+1:Nat):Int):=by omega
      have hi:IntKind.i64.wrap (((k+1:Nat):Int)-1)=(k:Int):=by rw [IntWalk.i64_in _ (by omega)];omega
      have hbk:(k:Int)<(L.length:Int):=by omega
      have hbn:k<L.length:=by omega
      clear hc' hy hA'
      unfold goodP at HGK
      simp only at HGK
      have HOK2:Hid (goodAt ps L (k+1)=true→∀i,i<k+1+1→goodAt ps L i=true):=hJ fun h i hi=>by
       by_cases e:i=k+1
       · subst e;exact h
       · exact HOK.out i (by omega)
      by_cases h1:ra<yb
      · have HV:Hid (R=false):=hJ (HNO.out (by rw [HGK.out];exact decide_eq_false (by omega)))
        have hd1:decide (ra<yb)=true:=decide_eq_true h1
        go_quiet (fail)
        go_wp2
        go_ret
        exact ⟨by rw [HV.out];rfl,(below_drewN HBX.out _)⟩
      have hd1:decide (ra<yb)=false:=decide_eq_false h1
      by_cases h2:yb=ra
      · by_cases h3:yp=rp
        · have HV:Hid (R=false):=hJ (HNO.out (by rw [HGK.out];exact decide_eq_false (by omega)))
          have hb2:(yb==ra)=true:=by simp [h2]
          have hb3:(yp==rp)=true:=by simp [h3]
          clear h2 h3 h1
          go_quiet (fail)
          go_wp2
          go_ret
          exact ⟨by rw [HV.out];rfl,(below_drewN HBX.out _)⟩
        · have HV:Hid (goodAt ps L (k+1)=true):=hJ (by rw [HGK.out];exact decide_eq_true (by omega))
          have hb2:(yb==ra)=true:=by simp [h2]
          have hb3:(yp==rp)=false:=by simp [h3]
          clear h2 h3 h1
          go_quiet (fail)
          go_wp2
          go_roundw
          case rel=>exact ⟨k+1+1,by omega,by go_num,(below_drewN HBW.out _),HOK2.out HV.out⟩
          case measure=>simp [intOf];omega
      · have HV:Hid (goodAt ps L (k+1)=true):=hJ (by rw [HGK.out];exact decide_eq_true (by omega))
        have hb2:(yb==ra)=false:=by simp [h2]
        clear h2 h1
        go_quiet (fail)
        go_wp2
        go_roundw
        case rel=>exact ⟨k+1+1,by omega,by go_num,(below_drewN HBW.out _),HOK2.out HV.out⟩
        case measure=>simp [intOf];omega
  · obtain rfl:j=L.length:=by omega
    have hjj:¬(L.length:Int)<(L.length:Int):=by omega
    have HV:Hid (R=true):=hJ (HYES.out fun i hi=>HOK.out i hi)
    have HBX:=hJ (HWA.out.trans (HB.out.mono HWA.out.size))
    obtain ⟨k7,k8⟩:=HCC.out _ HB.out
    have lk:=lt_of_cell k8
    clear hok hjn hb
    go_wp2
    go_ret
    exact ⟨by rw [HV.out];simp,HBX.out⟩
end Go.Proofs.YtlhfjaagkgengaaGreat
