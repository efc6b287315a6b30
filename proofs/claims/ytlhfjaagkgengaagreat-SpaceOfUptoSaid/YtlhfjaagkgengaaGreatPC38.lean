/- The document's machine: find, load. The document's machine: a byte is stored. The document's machine: a process apart. -/
import Derived.Test.YtlhfjaagkgengaaGreatPC35
namespace Go.Proofs.YtlhfjaagkgengaaGreat
set_option maxRecDepth 100000
set_option maxHeartbeats 4000000
open Go.RowKit Go.Maps
set_option linter.unusedVariables false
set_option linter.unusedSimpArgs false
structure FndP (L:List MPg) (n i:Nat):Prop where
 le:i≤L.length
 lt:∀k x,k<i→L[k]? =some x→x.n<n
 ge:∀x,L[i]? =some x→n≤x.n
def FndPost (w:World) (L:List MPg) (n:Nat) (e:Ending) (w':World):Prop:=
 ∃ i:Nat,FndP L n i∧(∃q,w'=w.drewN q)∧
   ((∃x,L[i]? =some x∧x.n=n∧e=.returned (.tuple #[.int .i64 (i:Nat),.bool true]))∨((∀x,L[i]? =some x→n<x.n)∧e=.returned (.tuple #[.int .i64 (i:Nat),.bool false])))
section
variable {w w':World} {D:MaD} {B:List Bool} {Q:List (Option Nat)} {p:MPr}
theorem maFind_any {z:Nat} (hp:PrAt w z p) (hl:p.L.length≤1000000) (n:Nat):Calls Tryz.prog 155 #[.pointer (some ⟨p.X,0,none⟩),.int .i64 (n:Nat)] w (FndPost w p.L n):=by
 have c1:=hp.c1
 have lX:=hp.ltX
 have HP:=hJ hp.pg
 unfold MPr.lv at c1
 clear hp
 go_enter Tryz.func155,Tryz.ntmps155
 go_wp2
 go_loop [6] (fun i=>∃j:Nat,j≤p.L.length∧i=.int .i64 (j:Nat)∧Hid (∀k x,k<j→p.L[k]? =some x→x.n<n)) (fun i=>p.L.length-(intOf i).toNat)
 case atStart=>exact ⟨0,Nat.zero_le _,rfl,hJ fun k x hk=>by omega⟩
 case round=>
  obtain ⟨j,hj,rfl,HJ⟩:=hrel
  by_cases hlt:j<p.L.length
  · obtain ⟨x,hx⟩:∃x,p.L[j]? =some x:=⟨_,jE hlt⟩
    obtain ⟨g,o,hA,hg,hc⟩:=HP.out.at_ (by omega)
    have x0:=hc j x hx 0 _ rfl
    change w.cell? ⟨g,o+j*2+0,none⟩=some (.int .i64 (x.n:Nat)) at x0
    rw [Nat.add_zero] at x0
    have HX:=hJ hx
    have hjI:(j:Int)<(p.L.length:Int):=by omega
    have hkd:decide (j<p.L.length)=true:=decide_eq_true hlt
    rw [hA] at c1
    obtain ⟨m,hm⟩:∃m,x.n=m:=⟨_,rfl⟩
    rw [hm] at x0
    have HM:=hJ hm
    clear hx hc hm hA
    by_cases h1:m<n
    · have hJ2:=hJ (show ∀k x,k<j+1→p.L[k]? =some x→x.n<n from fun k y hk hy=>by
       rcases Nat.lt_or_ge k j with h|h
       · exact HJ.out k y h hy
       · obtain rfl:k=j:=by omega
         rw [HX.out] at hy
         cases hy
         have:=HM.out
         omega)
      have h1I:(m:Int)<(n:Int):=by omega
      go_wp2
      go_round
      case rel=>exact ⟨j+1,hlt,by go_num,hJ2⟩
      case measure=>simp [intOf];omega
    · have h1I:¬(m:Int)<(n:Int):=by omega
      by_cases h2:m=n
      · have hd2:(m==n)=true:=beq_iff_eq.2 h2
        have hd2':((m:Int)==(n:Int))=true:=beq_iff_eq.2 (by omega)
        have HG:Hid (∀q,FndPost w p.L n (.returned (.tuple #[.int .i64 (j:Nat),.bool true])) (w.drewN q)):=hJ fun q=>⟨j,⟨hj,HJ.out,fun y hy=>by rw [HX.out] at hy;cases hy;have:=HM.out;omega⟩,⟨q,rfl⟩,.inl ⟨x,HX.out,by rw [HM.out,h2],rfl⟩⟩
        clear h2
        go_upto_region 4 with (fail)
        go_quiet (fail)
        go_wp2
        go_ret2
        exact HG.out _
      · have hd2:(m==n)=false:=beq_eq_false_iff_ne.2 h2
        have hd2':((m:Int)==(n:Int))=false:=beq_eq_false_iff_ne.2 (by omega)
        have HG:Hid (∀q,FndPost w p.L n (.returned (.tuple #[.int .i64 (j:Nat),.bool false])) (w.drewN q)):=hJ fun q=>⟨j,⟨hj,HJ.out,fun y hy=>by rw [HX.out] at hy;cases hy;have:=HM.out;omega⟩,⟨q,rfl⟩,.inr ⟨fun y hy=>by rw [HX.out] at hy;cases hy;have:=HM.out;omega,rfl⟩⟩
        clear h2
        go_upto_region 4 with (fail)
        go_quiet (fail)
        go_wp2
        go_ret2
        exact HG.out _
  · obtain rfl:j=p.L.length:=by omega
    have hjI:¬(p.L.length:Int)<(p.L.length:Int):=by omega
    have hkd:decide (p.L.length<p.L.length)=false:=decide_eq_false (by omega)
    have HG:Hid (∀q,FndPost w p.L n (.returned (.tuple #[.int .i64 (p.L.length:Nat),.bool false])) (w.drewN q)):=hJ fun q=>⟨p.L.length,⟨hj,HJ.out,fun y hy=>by rw [List.getElem?_eq_none jN] at hy;cases hy⟩,⟨q,rfl⟩,.inr ⟨(fun y hy=>by rw [List.getElem?_eq_none jN] at hy;cases hy),rfl⟩⟩
    go_upto_region 4 with (fail)
    go_quiet (fail)
    go_wp2
    go_ret2
    exact HG.out _
theorem fnd_away {z n:Nat} (hp:PrAt w z p) {i:Nat} (h:FndP p.L n i) (hno:∀x,p.L[i]? =some x→n<x.n):¬domL p.pl.L n:=by
 rintro ⟨y,hy,e⟩
 obtain ⟨x,hx,rfl⟩:=List.mem_map.1 hy
 obtain ⟨k,hk⟩:=List.mem_iff_getElem?.1 hx
 have hkl:=(jS.1 hk).1
 simp only at e
 rcases Nat.lt_trichotomy k i with c|c|c
 · have:=h.lt k x c hk;omega
 · subst c
   have:=hno x hk
   omega
 · obtain ⟨u,hu⟩:∃u,p.L[i]? =some u:=⟨_,jE (by omega)⟩
   have h1:=hno u hu
   have h2:=List.pairwise_iff_getElem.1 hp.ok.1 i k (by show i<(p.L.map _).length;rw [List.length_map];omega) (by show k<(p.L.map _).length;rw [List.length_map];omega) c
   have e1:(p.pl.L)[i]'(by show i<(p.L.map _).length;rw [List.length_map];omega)=(u.n,u.b):=by
    show (p.L.map _)[i]'_=_
    rw [List.getElem_map]
    have:=(jS.1 hu).2
    rw [this]
   have e2:(p.pl.L)[k]'(by show k<(p.L.map _).length;rw [List.length_map];omega)=(x.n,x.b):=by
    show (p.L.map _)[k]'_=_
    rw [List.getElem_map]
    have:=(jS.1 hk).2
    rw [this]
   rw [e1,e2] at h2
   simp only at h2
   omega
theorem maLoad_any (h:MaF w D B Q) (hp:PrAt w D.z p) (hl:p.L.length≤1000000) (a:Nat) (ha:a≤4294967296):Calls Tryz.prog 114 #[.pointer (some ⟨D.X,0,none⟩),.pointer (some ⟨p.X,0,none⟩),.int .i64 (a:Nat)] w fun e w'=>e=.returned (.int .u8 ((ldB D.z p.pl.L a).toNat:Nat))∧∃q,w'=w.drewN q:=by
 have c4:=h.cc 4 (by omega)
 rw [h.ez] at c4
 have lX:=h.ltX
 have lP:=hp.ltX
 have c1:=hp.c1
 have hb4:=h.sok.b4
 change 16≤D.z∧D.z≤4096 at hb4
 unfold MPr.lv at c1
 have HP:=hJ hp
 obtain ⟨q,hq⟩:∃q,q=a / D.z:=⟨_,rfl⟩
 obtain ⟨o,ho⟩:∃o,o=a%D.z:=⟨_,rfl⟩
 have hol:o<D.z:=by rw [ho];exact Nat.mod_lt _ (by omega)
 have l1:q≤a:=by rw [hq];exact Nat.div_le_self _ _
 have e1:((a:Int)).tdiv (D.z:Int)=(q:Int):=by rw [tdiv_nat,hq]
 have e2:((a:Int)).tmod (D.z:Int)=(o:Int):=by rw [tmod_nat,ho]
 have e1':((a:Int)) / (D.z:Int)=(q:Int):=by rw [hq];simp
 have e2':((a:Int))%(D.z:Int)=(o:Int):=by rw [ho];simp
 have i3:(D.z:Int)≠0:=by omega
 have i4:¬D.z=0:=by omega
 have w1:IntKind.i64.wrap (q:Int)=(q:Int):=IntWalk.i64_in _ (by omega)
 have w2:IntKind.i64.wrap (o:Int)=(o:Int):=IntWalk.i64_in _ (by omega)
 have HQ:=hJ (And.intro hq ho)
 have HF:=hJ (maFind_any hp hl q)
 clear h hp hq ho
 go_enter Tryz.func114,Tryz.ntmps114
 go_wp2_with fail
 refine HF.out.mono ?_
 rintro e w3 ⟨i,hfp,⟨n1,rfl⟩,hcs⟩
 rcases hcs with ⟨x,hx,hxn,rfl⟩|⟨hno,rfl⟩
 · have hil:=(jS.1 hx).1
   obtain ⟨g,og,hA,hg,hc⟩:=HP.out.pg.at_ (by omega)
   have x1:=hc i x hx 1 _ rfl
   change w.cell? ⟨g,og+i*2+1,none⟩=some (.slice (some ⟨x.g,0,none⟩) x.b.length x.c) at x1
   have hxm:=jG hx
   have hxl:=HP.out.len hxm
   have y0:=(HP.out.bys x hxm).cellB (j:=o) (by omega)
   have lxg:=lt_of_cell y0
   have hlI:(i:Int)<(p.L.length:Int):=by omega
   have hoI:(o:Int)<(D.z:Int):=by omega
   have HV:Hid ((ldB D.z p.pl.L a).toNat=at8 x.b o):=hJ (by
    rw [ldB_at HP.out.ok (p:=(x.n,x.b)) (List.mem_map.2 ⟨x,hxm,rfl⟩) (by rw [hxn,HQ.out.1]),HQ.out.2]
    rfl)
   rw [hxl] at x1
   rw [hA] at c1
   clear hfp hx hxn hc hA hxm HF hil
   go_upto_region 4 with (fail)
   go_quiet (fail)
   go_wp2
   go_ret
   exact ⟨ret_int (by rw [HV.out]),n1+nq,by simp⟩
 · have HV:Hid (ldB D.z p.pl.L a=0):=hJ (ldB_away (by rw [←HQ.out.1];exact fnd_away HP.out hfp hno))
   clear hfp hno HF
   go_wp2
   go_ret
   exact ⟨ret_int (by rw [HV.out];rfl),_,rfl⟩
end
set_option maxRecDepth 100000
set_option maxHeartbeats 4000000
theorem stB_has {z a:Nat} {x:UInt8}:∀(L:PgL) (i:Nat) (p:Nat×Bytes),(∀k q,k<i→L[k]? =some q→q.1<a / z)→L[i]? =some p→p.1=a / z→stB z L a x=L.set i (p.1,p.2.set (a%z) x)
 |[],i,p,_,h,_=>by simp at h
 | q::L,0,p,_,h,e=>by
   simp at h
   subst h
   unfold stB
   rw [if_neg (by omega),if_pos e]
   rfl
 | q::L,i+1,p,hl,h,e=>by
   unfold stB
   rw [if_pos (hl 0 q (by omega) rfl),stB_has L i p (fun k r hk hr=>hl (k+1) r (by omega) hr) h e]
   rfl
theorem stB_put {z a:Nat} {x:UInt8}:∀(L:PgL) (i:Nat),i≤L.length→(∀k q,k<i→L[k]? =some q→q.1<a / z)→(∀p,L[i]? =some p→a / z<p.1)→stB z L a x=L.take i ++ (a / z,(zeros z).set (a%z) x)::L.drop i
 | [],i,hi,_,_=>by
   obtain rfl:i=0:=by simpa using hi
   rfl
 | q::L,0,_,_,h=>by
   have:=h q rfl
   unfold stB
   rw [if_neg (by omega),if_neg (by omega)]
   rfl
 | q::L,i+1,hi,hl,h=>by
   unfold stB
   rw [if_pos (hl 0 q (by omega) rfl),stB_put L i (by simpa using hi) (fun k r hk hr=>hl (k+1) r (by omega) hr) h]
   rfl
theorem zeros_set (z o:Nat):(zeros z).set o 0=zeros z:=by
 apply List.ext_getElem?
 intro j
 rw [List.getElem?_set]
 unfold zeros
 rw [List.length_replicate,List.getElem?_replicate]
 split
 · rename_i e
   subst e
   split
   · rfl
   · rfl
 · rfl
def pgK (x:MPg):Nat×Bytes:=(x.n,x.b)
theorem pl_L (p:MPr):p.pl.L=p.L.map pgK:=rfl
theorem pgNew (W:World) (n g z:Nat) (T:TypeId):EAt pgE (W.alloc (.cells #[.int .i64 (n:Nat),.slice (some ⟨g,0,none⟩) z z] T)) (some ⟨W.heap.size,0,none⟩) [⟨n,g,z,zeros z⟩]:=by
 have h:=EAt.one pgE W ⟨n,g,z,zeros z⟩ T
 have e:(pgE.cells ⟨n,g,z,zeros z⟩).toArray=#[.int .i64 (n:Nat),.slice (some ⟨g,0,none⟩) z z]:=by
  show #[Value.int .i64 (n:Nat),.slice (some ⟨g,0,none⟩) (zeros z).length z]=_
  rw [zeros_length]
 rw [e] at h
 exact h
theorem pgNew2 (W:World) (o:Obj) (n g z:Nat) (T:TypeId):EAt pgE ((W.alloc o).alloc (.cells #[.int .i64 (n:Nat),.slice (some ⟨g,0,none⟩) z z] T)) (some ⟨W.heap.size+1,0,none⟩) [⟨n,g,z,zeros z⟩]:=by
 have h:=pgNew (W.alloc o) n g z T
 rw [show (W.alloc o).heap.size=W.heap.size+1 by simp] at h
 exact h
theorem pgMade (W:World) (z:Nat) (hz:z≤65536):OwB W.heap.size (W.alloc (.cells (madeCells #[.int .u8 0] z) 5)) (.slice (some ⟨W.heap.size,0,none⟩) z z) (zeros z):=(FrB.zmade W z (by omega)).own
theorem mOff {E:Type} {F:El E} {B B':Nat} {W W':World} {v v':Value} {b:Bytes} {L:List E} (h:OwB B W v b) (h':OwE F B' W v' L) (hne:5≠F.el) (ho:Off (fun k=>v'.ownBlock=some k) W W'):OwB B W' v b:=
 h.off ho fun _ e e2=>own_type h h' hne e e2
theorem OwB.up1 {B:Nat} {W:World} {v:Value} {b:Bytes} (h:OwB B W v b) (o:Obj):OwB B (W.alloc o) v b:=h.up (jB.alloc jN _)
theorem OwB.up2 {B:Nat} {W:World} {v:Value} {b:Bytes} (h:OwB B W v b):OwB B W.drew v b:=h.up jB.drew
def MPr.put (p:MPr) (i:Nat) (A:Option Addr) (c:Nat) (x:MPg):MPr:={p with LA:=A,Lc:=c,L:=p.L.take i ++ ([x] ++ p.L.drop i)}
section
variable {w w' w4:World} {z:Nat} {p:MPr} {i n:Nat} {x:MPg}
theorem pl_fnd (hf:FndP p.L n i):i≤p.pl.L.length∧(∀k q,k<i→p.pl.L[k]? =some q→q.1<n):=by
 rw [pl_L]
 refine ⟨by rw [List.length_map];exact hf.le,fun k q hk hq=>?_⟩
 rw [List.getElem?_map] at hq
 cases hx:p.L[k]? with
 |none=>rw [hx] at hq;cases hq
 | some y=>
   rw [hx] at hq
   cases hq
   exact hf.lt k y hk hx
theorem pl_no (hno:∀x,p.L[i]? =some x→n<x.n):∀q,p.pl.L[i]? =some q→n<q.1:=fun q hq=>by
 rw [pl_L,List.getElem?_map] at hq
 cases hx:p.L[i]? with
 |none=>rw [hx] at hq;cases hq
 | some y=>
   rw [hx] at hq
   cases hq
   exact hno y hx
theorem put_pl (A:Option Addr) (c:Nat):(p.put i A c x).pl.L=p.pl.L.take i ++ pgK x::p.pl.L.drop i:=by
 rw [pl_L,pl_L,MPr.put]
 simp only [List.map_append,List.map_cons,List.map_nil,List.map_take,List.map_drop]
 rfl
theorem put_stB {a:Nat} (hf:FndP p.L (a / z) i) (hno:∀x,p.L[i]? =some x→a / z<x.n) (A:Option Addr) (c g c2:Nat) (v:UInt8):
 stB z p.pl.L a v=p.pl.L.take i ++ (a / z,(zeros z).set (a%z) v)::p.pl.L.drop i:=stB_put _ _ (pl_fnd hf).1 (pl_fnd hf).2 (pl_no hno)
theorem PrAt.put (h:PrAt w z p) {a:Nat} (hf:FndP p.L (a / z) i) (hno:∀x,p.L[i]? =some x→a / z<x.n) {A:Option Addr} {c g:Nat} {N:Nat} (hN:N=p.L.length+1) (hrow:OwE pgE 0 w4 (.slice A N c) (p.L.take i ++ ([⟨a / z,g,z,zeros z⟩] ++ p.L.drop i)))
 (hby:OwB 0 w4 (.slice (some ⟨g,0,none⟩) z z) (zeros z)) (hbel:Below w.heap.size w w4) (hA:∀k,(Value.slice A N c).ownBlock=some k→w.heap.size≤k) (hg:w.heap.size≤g):
 PrAt (w4.setCell ⟨p.X,1,none⟩ (.slice A N c)) z (p.put i A c ⟨a / z,g,z,zeros z⟩)∧Off p.own w (w4.setCell ⟨p.X,1,none⟩ (.slice A N c))∧∀q,(p.put i A c ⟨a / z,g,z,zeros z⟩).own q→p.own q∨w.heap.size≤q:=by
 have hlen:(p.put i A c ⟨a / z,g,z,zeros z⟩).L.length=p.L.length+1:=by
  have:=hf.le
  simp only [MPr.put,List.length_append,List.length_take,List.length_drop,List.length_singleton]
  omega
 have hlv:(p.put i A c ⟨a / z,g,z,zeros z⟩).lv=.slice A N c:=by
  unfold MPr.lv
  rw [hlen,hN]
  rfl
 have h4:=h.off (S:=fun _=>False) (Off.of_below hbel) (fun _ _=>id)
 have ho:Off (· =p.X) w4 (w4.setCell ⟨p.X,1,none⟩ (.slice A N c)):=(Off.refl (· =p.X) w4).setCell (p:=⟨p.X,1,none⟩) rfl _
 have hown:∀k,(Value.slice A N c).ownBlock=some k→k≠p.X:=fun k e=>own_block hrow h4.x0 (by decide) e
 have hgX:g≠p.X:=own_block hby h4.x0 (by decide) rfl
 have hmem:∀y∈(p.put i A c ⟨a / z,g,z,zeros z⟩).L,y=⟨a / z,g,z,zeros z⟩∨y∈p.L:=fun y hy=>by
  simp only [MPr.put,List.mem_append,List.mem_singleton] at hy
  rcases hy with hy|hy|hy
  · exact .inr (List.mem_of_mem_take hy)
  · exact .inl hy
  · exact .inr (List.mem_of_mem_drop hy)
 refine ⟨⟨?_,?_,?_,?_,?_,?_⟩,?_,?_⟩
 · have:=heap_setCell_same w4 p.X 1 _ 157 (.slice A N c) h4.x0
   rw [hlv]
   exact this
 · exact h4.rr.off ho fun k e e2=>h4.ne_rX e e2
 · rw [hlv]
   exact hrow.off ho fun k e e2=>hown k e e2
 · intro y hy
   rcases hmem y hy with rfl|hy
   · show OwB 0 _ (.slice (some ⟨g,0,none⟩) (zeros z).length z) (zeros z)
     rw [zeros_length]
     exact hby.off ho fun k e e2=>by cases e;exact hgX e2
   · exact (h4.bys y hy).off ho fun k e e2=>by cases e;exact h4.ne_gX hy e2
 · rw [put_pl]
   have:=stB_ok (a:=a) (x:=0) h.ok
   rw [put_stB hf hno A c g z 0,zeros_set] at this
   exact this
 · have hlt:∀y∈p.L,y.g<g:=fun y hy=>by
    have:=h.lt (q:=y.g) (.inr (.inr (.inr ⟨y,hy,rfl⟩)))
    omega
   have hg0:=h.gs
   rw [←List.take_append_drop i p.L] at hg0
   obtain ⟨g1,g2,g3⟩:=List.pairwise_append.1 hg0
   show (p.L.take i ++ ([(⟨a / z,g,z,zeros z⟩:MPg)] ++ p.L.drop i)).Pairwise _
   rw [List.pairwise_append]
   refine ⟨g1,List.pairwise_cons.2 ⟨fun y hy=>?_,g2⟩,fun y hy u hu=>?_⟩
   · have:=hlt y (List.mem_of_mem_drop hy)
     simp only
     omega
   · rcases List.mem_cons.1 hu with rfl|hu
     · have:=hlt y (List.mem_of_mem_take hy)
       simp only
       omega
     · exact g3 y hy u hu
 · exact (Off.of_below hbel).trans (ho.mono fun k e=>.inl e)
 · rintro q (e|e|e|⟨y,hy,rfl⟩)
   · exact .inl (.inl e)
   · exact .inl (.inr (.inl e))
   · rw [hlv] at e
     exact .inr (hA q e)
   · rcases hmem y hy with rfl|hy
     · exact .inr hg
     · exact .inl (.inr (.inr (.inr ⟨y,hy,rfl⟩)))
def MPr.setB (p:MPr) (i:Nat) (x:MPg) (o:Nat) (v:UInt8):MPr:={p with L:=p.L.set i {x with b:=x.b.set o v}}
theorem PrAt.setB (h:PrAt w z p) (hx:p.L[i]? =some x) (o:Nat) (v:UInt8):PrAt (w.setCell ⟨x.g,o,none⟩ (bv v)) z (p.setB i x o v)∧Off (· =x.g) w (w.setCell ⟨x.g,o,none⟩ (bv v))∧∀q,(p.setB i x o v).own q→p.own q:=by
 have hm:=jG hx
 have hil:=(jS.1 hx).1
 obtain ⟨h1,ho⟩:=(h.bys x hm).setB o v
 have hlv:(p.setB i x o v).lv=p.lv:=by
  unfold MPr.lv MPr.setB
  simp only [List.length_set]
 have hcells:elC pgE (p.L.set i {x with b:=x.b.set o v})=elC pgE p.L:=by
  unfold elC
  rw [List.flatMap_def,List.flatMap_def,List.map_set]
  congr 1
  apply List.ext_getElem?
  intro k
  rw [List.getElem?_set]
  split
  · rename_i e
    subst e
    rw [if_pos (by simpa using hil),List.getElem?_map,hx]
    show some _=some _
    congr 1
    show ([.int .i64 (x.n:Nat),.slice (some ⟨x.g,0,none⟩) (x.b.set o v).length x.c]:List Value)=[.int .i64 (x.n:Nat),.slice (some ⟨x.g,0,none⟩) x.b.length x.c]
    rw [List.length_set]
  · rfl
 have hmem:∀y∈(p.setB i x o v).L,y={x with b:=x.b.set o v}∨(y∈p.L∧y.g≠x.g):=fun y hy=>by
  rcases set_mem hy with e|⟨k,hk,e⟩
  · exact .inl e
  · refine .inr ⟨jG e,fun e2=>?_⟩
    have hkl:=(jS.1 e).1
    have e3:=(jS.1 e).2
    have e4:=(jS.1 hx).2
    rcases Nat.lt_or_ge k i with c|c
    · have:=List.pairwise_iff_getElem.1 h.gs k i hkl hil c
      rw [e3,e4] at this
      exact this e2
    · have:=List.pairwise_iff_getElem.1 h.gs i k hil hkl (by omega)
      rw [e3,e4] at this
      exact this e2.symm
 refine ⟨⟨?_,?_,?_,?_,?_,?_⟩,ho,?_⟩
 · rw [hlv]
   exact (ho.block p.X h.ltX (fun e=>h.ne_gX hm e.symm)).trans h.x0
 · exact h.rr.off ho fun k e e2=>h.ne_gr hm (by rw [←e2];exact e)
 · rw [hlv]
   have:=h.lr.off ho fun k e e2=>h.ne_gl hm (by rw [←e2];exact e)
   unfold OwE at this ⊢
   have hl:(p.setB i x o v).L.length=p.L.length:=by unfold MPr.setB;simp only [List.length_set]
   rw [hl]
   show World.ownsRow _ _ _ _ _ _ (elC pgE (p.L.set i {x with b:=x.b.set o v}))
   rw [hcells]
   exact this
 · intro y hy
   rcases hmem y hy with rfl|⟨hy,hne⟩
   · show OwB 0 _ (.slice (some ⟨x.g,0,none⟩) (x.b.set o v).length x.c) (x.b.set o v)
     rw [List.length_set]
     exact h1
   · exact (h.bys y hy).off ho fun k e e2=>by cases e;exact hne e2
 · have hk:(p.setB i x o v).pl.L=p.pl.L.set i (x.n,x.b.set o v):=by
    rw [pl_L,pl_L]
    unfold MPr.setB
    simp only [List.map_set]
    rfl
   rw [hk]
   have hxp:p.pl.L[i]? =some (x.n,x.b):=by rw [pl_L,List.getElem?_map,hx];rfl
   refine ⟨?_,fun q hq=>?_⟩
   · have e:(p.pl.L.set i (x.n,x.b.set o v)).map (·.1)=p.pl.L.map (·.1):=by
      rw [List.map_set]
      apply List.ext_getElem?
      intro k
      rw [List.getElem?_set]
      split
      · rename_i e
        subst e
        rw [if_pos (by rw [List.length_map,pl_L,List.length_map];exact hil),List.getElem?_map,hxp]
        rfl
      · rfl
     have h2:(p.pl.L.map (·.1)).Pairwise (· < ·):=by rw [List.pairwise_map];exact h.ok.1
     rw [←e,List.pairwise_map] at h2
     exact h2
   · rcases set_mem hq with e|⟨k,_,e⟩
     · rw [e]
       simp only [List.length_set]
       exact h.len hm
     · exact h.ok.2 q (jG e)
 · have e:(p.setB i x o v).L.map (·.g)=p.L.map (·.g):=by
    unfold MPr.setB
    rw [List.map_set]
    apply List.ext_getElem?
    intro k
    rw [List.getElem?_set]
    split
    · rename_i e
      subst e
      rw [if_pos (by rw [List.length_map];exact hil),List.getElem?_map,hx]
      rfl
    · rfl
   have h2:(p.L.map (·.g)).Pairwise (· ≠ ·):=by rw [List.pairwise_map];exact h.gs
   rw [←e,List.pairwise_map] at h2
   exact h2
 · rintro q (e|e|e|⟨y,hy,rfl⟩)
   · exact .inl e
   · exact .inr (.inl e)
   · rw [hlv] at e
     exact .inr (.inr (.inl e))
   · rcases hmem y hy with rfl|⟨hy,_⟩
     · exact .inr (.inr (.inr ⟨x,hm,rfl⟩))
     · exact .inr (.inr (.inr ⟨y,hy,rfl⟩))
theorem setB_pl (hx:p.L[i]? =some x) {a:Nat} (hf:FndP p.L (a / z) i) (hn:x.n=a / z) (v:UInt8):(p.setB i x (a%z) v).pl.L=stB z p.pl.L a v:=by
 have hxp:p.pl.L[i]? =some (x.n,x.b):=by rw [pl_L,List.getElem?_map,hx];rfl
 rw [stB_has p.pl.L i (x.n,x.b) (pl_fnd hf).2 hxp hn,pl_L,pl_L]
 unfold MPr.setB
 simp only [List.map_set]
 rfl
theorem put_fnd {a:Nat} (hf:FndP p.L (a / z) i) (A:Option Addr) (c g:Nat):(p.put i A c ⟨a / z,g,z,zeros z⟩).L[i]? =some ⟨a / z,g,z,zeros z⟩∧FndP (p.put i A c ⟨a / z,g,z,zeros z⟩).L (a / z) i:=by
 have hle:=hf.le
 have hl:(p.L.take i).length=i:=by rw [List.length_take];omega
 have hat:(p.put i A c ⟨a / z,g,z,zeros z⟩).L[i]? =some ⟨a / z,g,z,zeros z⟩:=by
  show (p.L.take i ++ ([(⟨a / z,g,z,zeros z⟩:MPg)] ++ p.L.drop i))[i]? =_
  rw [List.getElem?_append_right (by omega),hl,Nat.sub_self]
  rfl
 refine ⟨hat,⟨?_,fun k y hk hy=>?_,fun y hy=>?_⟩⟩
 · have:=(jS.1 hat).1
   omega
 · change (p.L.take i ++ ([(⟨a / z,g,z,zeros z⟩:MPg)] ++ p.L.drop i))[k]? =some y at hy
   rw [List.getElem?_append_left (by omega),List.getElem?_take,if_pos hk] at hy
   exact hf.lt k y hk hy
 · rw [hat] at hy
   cases hy
   exact Nat.le_refl _
theorem put_set_pl {a:Nat} (hf:FndP p.L (a / z) i) (hno:∀x,p.L[i]? =some x→a / z<x.n) (A:Option Addr) (c g:Nat) (v:UInt8):((p.put i A c ⟨a / z,g,z,zeros z⟩).setB i ⟨a / z,g,z,zeros z⟩ (a%z) v).pl.L=stB z p.pl.L a v:=by
 obtain ⟨h1,h2⟩:=put_fnd hf A c g
 rw [put_stB hf hno A c g z v,pl_L]
 have hle:=(pl_fnd hf).1
 show ((p.L.take i ++ ([(⟨a / z,g,z,zeros z⟩:MPg)] ++ p.L.drop i)).set i ⟨a / z,g,z,(zeros z).set (a%z) v⟩).map pgK=_
 have hl:(p.L.take i).length=i:=by rw [List.length_take];have:=hf.le;omega
 rw [List.set_append_right _ _ (by omega),hl,Nat.sub_self]
 simp only [List.singleton_append,List.set_cons_zero,List.map_append,List.map_cons,List.map_take,List.map_drop]
 rfl
end
set_option maxRecDepth 100000
set_option maxHeartbeats 4000000
def MPr.push (p:MPr) (A:Option Addr) (c:Nat) (x:MPg):MPr:={p with LA:=A,Lc:=c,L:=p.L ++ [x]}
theorem push_pl (p:MPr) (A:Option Addr) (c:Nat) (x:MPg):(p.push A c x).pl.L=p.pl.L ++ [pgK x]:=by
 rw [pl_L,pl_L]
 unfold MPr.push
 simp only [List.map_append,List.map_cons,List.map_nil]
section
variable {w w' w4:World} {z:Nat} {p:MPr} {x:MPg}
theorem PrAt.new (w:World) (z:Nat) {A:Option Addr} {n c:Nat} {R:List Rg} (hn:n=R.length) (h:OwE rgE 0 w (.slice A n c) R):PrAt (w.alloc (.cells #[.slice A n c,.slice none 0 0] 157)) z ⟨w.heap.size,A,c,R,none,0,[]⟩:=by
 subst hn
 exact ⟨heap_alloc_new w _,h.up (jB.alloc jN _),OwE.nil _ _ _,fun x hx=>(by cases hx),PgOk.nil,List.Pairwise.nil⟩
def TwPost (w:World) (z:Nat) (p:MPr) (e:Ending) (w':World):Prop:=
 ∃p':MPr,e=.returned (.pointer (some ⟨p'.X,0,none⟩))∧PrAt w' z p'∧p'.pl=p.pl∧Below w.heap.size w w'∧∀q,p'.own q→w.heap.size≤q
structure TwI (w wr:World) (z:Nat) (p:MPr) (j:Nat) (p':MPr):Prop where
 at_:PrAt wr z p'
 R:p'.R=p.R
 L:p'.L.map pgK=(p.L.take j).map pgK
 bel:Below w.heap.size w wr
 own:∀q,p'.own q→w.heap.size≤q
theorem TwI.len {wr:World} {j:Nat} {p':MPr} (h:TwI w wr z p j p') (hj:j≤p.L.length):p'.L.length=j:=by
 have:=congrArg List.length h.L
 rw [List.length_map,List.length_map,List.length_take] at this
 omega
theorem TwI.step {wr w2 w3:World} {j:Nat} {p':MPr} (h:TwI w wr z p j p') (hp:PrAt w z p) (hx:p.L[j]? =some x) {g c c3:Nat} {A3:Option Addr} (hb2:Below wr.heap.size wr w2) (hby:OwB wr.heap.size w2 (.slice (some ⟨g,0,none⟩) z c) x.b) (hg:wr.heap.size≤g)
 (h3:OwE pgE 0 w3 (.slice A3 (j+1) c3) (p'.L ++ [⟨x.n,g,c,x.b⟩])) (h3g:∀k,(Value.slice A3 (j+1) c3).ownBlock=some k→w.heap.size≤k) (hb3:Off (fun k=>p'.lv.ownBlock=some k) w2 w3):
 TwI w (w3.setCell ⟨p'.X,1,none⟩ (.slice A3 (j+1) c3)) z p (j+1) (p'.push A3 c3 ⟨x.n,g,c,x.b⟩):=by
 have hj:=(jS.1 hx).1
 have hlen:=h.len (by omega)
 have hxl:=hp.len (jG hx)
 have h2:=h.at_.up hb2
 have hby3:OwB 0 w3 (.slice (some ⟨g,0,none⟩) z c) x.b:=(hby.off hb3 fun k e e2=>own_type hby h2.lr (by decide) e e2).mono (Nat.zero_le _)
 have hup:∀y∈p'.L,y.n<x.n:=fun y hy=>by
  have hm:pgK y∈(p.L.take j).map pgK:=by rw [←h.L];exact List.mem_map.2 ⟨y,hy,rfl⟩
  obtain ⟨u,hu,e⟩:=List.mem_map.1 hm
  have e1:u.n=y.n:=congrArg Prod.fst e
  obtain ⟨k,hk⟩:=List.mem_iff_getElem?.1 hu
  rw [List.getElem?_take] at hk
  split at hk
  · rename_i hkj
    have hpw:=hp.ok.1
    rw [pl_L,List.pairwise_map] at hpw
    have:=List.pairwise_iff_getElem.1 hpw k j (by omega) hj hkj
    rw [(jS.1 hk).2,(jS.1 hx).2] at this
    rw [←e1]
    exact this
  · cases hk
 have hgs:∀y∈p'.L,y.g≠g:=fun y hy e=>by
  have:=h.at_.lt (q:=y.g) (.inr (.inr (.inr ⟨y,hy,rfl⟩)))
  omega
 have hX3:w3.heap[p'.X]? =some (.cells #[p'.rv,p'.lv] 157 (0,0)):=(hb3.block p'.X h2.ltX (fun e=>h2.ne_lX e rfl)).trans h2.x0
 have ho:Off (· =p'.X) w3 (w3.setCell ⟨p'.X,1,none⟩ (.slice A3 (j+1) c3)):=(Off.refl (· =p'.X) w3).setCell (p:=⟨p'.X,1,none⟩) rfl _
 have hlv:(p'.push A3 c3 ⟨x.n,g,c,x.b⟩).lv=.slice A3 (j+1) c3:=by
  unfold MPr.lv MPr.push
  simp only [List.length_append,List.length_singleton]
  rw [hlen]
 have hmem:∀y∈(p'.push A3 c3 ⟨x.n,g,c,x.b⟩).L,y∈p'.L∨y=⟨x.n,g,c,x.b⟩:=fun y hy=>by
  change y∈p'.L ++ [_] at hy
  rw [List.mem_append,List.mem_singleton] at hy
  exact hy
 refine ⟨⟨?_,?_,?_,?_,?_,?_⟩,h.R,?_,?_,?_⟩
 · have:=heap_setCell_same w3 p'.X 1 _ 157 (.slice A3 (j+1) c3) hX3
   rw [hlv]
   exact this
 · exact (h2.rr.off hb3 fun k e e2=>h2.ne_rl e e2).off ho fun k e e2=>h2.ne_rX e e2
 · rw [hlv]
   exact h3.off ho fun k e e2=>own_block h3 hX3 (by decide) e e2
 · intro y hy
   rcases hmem y hy with hy|rfl
   · exact ((h2.bys y hy).off hb3 fun k e e2=>by cases e;exact h2.ne_gl hy e2).off ho fun k e e2=>by cases e;exact h2.ne_gX hy e2
   · show OwB 0 _ (.slice (some ⟨g,0,none⟩) x.b.length c) x.b
     rw [hxl]
     exact hby3.off ho fun k e e2=>by cases e;exact own_block hby3 hX3 (by decide) rfl e2
 · rw [push_pl]
   refine ⟨List.pairwise_append.2 ⟨h2.ok.1,by simp,fun q hq r hr=>?_⟩,fun q hq=>?_⟩
   · rw [List.mem_singleton] at hr
     subst hr
     obtain ⟨y,hy,rfl⟩:=List.mem_map.1 hq
     exact hup y hy
   · rcases List.mem_append.1 hq with hq|hq
     · exact h2.ok.2 q hq
     · rw [List.mem_singleton] at hq
       rw [hq]
       exact hxl
 · show (p'.L ++ [(⟨x.n,g,c,x.b⟩:MPg)]).Pairwise _
   rw [List.pairwise_append]
   exact ⟨h2.gs,by simp,fun y hy u hu=>by rw [List.mem_singleton] at hu;rw [hu];exact hgs y hy⟩
 · show (p'.L ++ [(⟨x.n,g,c,x.b⟩:MPg)]).map pgK=_
   rw [List.map_append,h.L,List.take_add_one,hx]
   simp [pgK]
 · have hz:=h.bel.size
   have b1:Below w.heap.size w w2:=h.bel.trans (hb2.mono hz)
   have b2:Below w.heap.size w2 w3:=hb3.below (fun k e=>h.own k (.inr (.inr (.inl e)))) b1.size
   have b3:Below w.heap.size w3 (w3.setCell ⟨p'.X,1,none⟩ (.slice A3 (j+1) c3)):=ho.below (fun k e=>by rw [e];exact h.own _ (.inl rfl)) (b1.trans b2).size
   exact (b1.trans b2).trans b3
 · rintro q (e|e|e|⟨y,hy,rfl⟩)
   · exact h.own q (.inl e)
   · exact h.own q (.inr (.inl e))
   · rw [hlv] at e
     exact h3g q e
   · rcases hmem y hy with hy|rfl
     · exact h.own _ (.inr (.inr (.inr ⟨y,hy,rfl⟩)))
     · exact Nat.le_trans h.bel.size hg
end
end Go.Proofs.YtlhfjaagkgengaaGreat
