/- A space: parts. A pager as spaces see it: which pages there are, their bytes, how many spaces use them. A pager as spaces see it: what each call answers. append(f, make([]byte, m)...), made bytes with -/
import Derived.Test.YtlhfjaagkgengaaGreatPC16
import Derived.Test.YtlhfjaagkgengaaGreatPC12
import Derived.Deep.RegionHeld3
namespace Go.Proofs.YtlhfjaagkgengaaGreat
set_option maxRecDepth 100000
set_option maxHeartbeats 4000000
open Go.RowKit
set_option linter.unusedVariables false
set_option linter.unusedSimpArgs false
structure Pt where
 p:Nat
 o:Nat
 n:Nat
deriving DecidableEq
def Pt.rg (x:Pt):Rg:=⟨(x.p:Nat),(x.o:Nat),(x.n:Nat)⟩
def partsN (z:Nat):Nat→Nat→Nat→List Pt
 |0,_,_=>[]
 |f+1,a,n=>if n=0 then [] else ⟨a / z,a%z,min n (z-a%z)⟩::partsN z f (a+min n (z-a%z)) (n-min n (z-a%z))
theorem partsN_fuel (z:Nat) (hz:0<z):∀(f g a n:Nat),n≤f→n≤g→partsN z f a n=partsN z g a n
 |0,0,_,_,_,_=>rfl
 | 0,g+1,a,n,h1,h2=>by
   obtain rfl:n=0:=by omega
   rfl
 | f+1,0,a,n,h1,h2=>by
   obtain rfl:n=0:=by omega
   rfl
 | f+1,g+1,a,n,h1,h2=>by
   have hm:=Nat.mod_lt a hz
   unfold partsN
   by_cases h:n=0
   · rw [if_pos h,if_pos h]
   · rw [if_neg h,if_neg h,partsN_fuel z hz f g _ _ (by omega) (by omega)]
def partsL (z a n:Nat):List Pt:=partsN z n a n
theorem partsL_cons {z a n:Nat} (hz:0<z) (hn:n≠0):partsL z a n=⟨a / z,a%z,min n (z-a%z)⟩::partsL z (a+min n (z-a%z)) (n-min n (z-a%z)):=by
 have hm:=Nat.mod_lt a hz
 unfold partsL
 obtain ⟨k,rfl⟩:∃k,n=k+1:=⟨n-1,by omega⟩
 rw [partsN,if_neg (by omega)]
 congr 1
 exact partsN_fuel z hz _ _ _ _ (by omega) (by omega)
theorem partsL_zero (z a:Nat):partsL z a 0=[]:=rfl
theorem partsN_len (z:Nat) (hz:0<z):∀(f a n:Nat),(partsN z f a n).length≤n
 |0,_,_=>by simp [partsN]
 | f + 1,a,n=>by
   have hm:=Nat.mod_lt a hz
   unfold partsN
   split
   · simp
   · have:=partsN_len z hz f (a+min n (z-a%z)) (n-min n (z-a%z))
     simp only [List.length_cons]
     omega
theorem partsL_len {z a n:Nat} (hz:0<z):(partsL z a n).length≤n:=partsN_len z hz n a n
theorem partsN_cnt (z:Nat) (hz:0<z):∀(f a n:Nat),(partsN z f a n).length*z≤if n=0 then 0 else a%z+n+z-1
 |0,a,n=>by simp [partsN]
 | f + 1,a,n=>by
   have hm:=Nat.mod_lt a hz
   unfold partsN
   by_cases h:n=0
   · rw [if_pos h,if_pos h];simp
   · rw [if_neg h,if_neg h]
     have ih:=partsN_cnt z hz f (a+min n (z-a%z)) (n-min n (z-a%z))
     rw [List.length_cons,Nat.add_mul,Nat.one_mul]
     by_cases h2:n≤z-a%z
     · rw [if_pos (by omega)] at ih
       omega
     · rw [if_neg (by omega)] at ih
       have h3:(a+min n (z-a%z))%z=0:=by
        have e:a+min n (z-a%z)=(a / z+1)*z:=by
         have:=Nat.div_add_mod a z
         rw [Nat.add_mul,Nat.one_mul,Nat.mul_comm]
         omega
        rw [e]
        exact Nat.mul_mod_left _ _
       rw [h3] at ih
       omega
theorem partsL_cnt {z a n:Nat} (hz:16≤z) (hz2:z≤4096) (hn:n≤1048576):(partsL z a n).length≤70000:=by
 have h:=partsN_cnt z (by omega) n a n
 have hm:=Nat.mod_lt a (show 0<z by omega)
 have h2:=Nat.mul_le_mul_left (partsN z n a n).length hz
 unfold partsL
 split at h<;>omega
section
variable {w w' w1:World} {D:SpD} {A:Option Addr} {cap n:Nat} {L:List Rg} {m:Int→Option Int} {S:Nat→Prop}
theorem parts_b (h:SpAt w D A cap L m n) (hD:D.Ok) {a k:Nat} (ha:a≤300000000) (hk:k≤1048576):
 Calls Tryz.prog 62 #[.pointer (some ⟨D.X,0,none⟩),.int .i64 (a:Nat),.int .i64 (k:Nat)] w fun e w'=>∃A' c',e=.returned (.slice A' (partsL D.pg a k).length c')∧FrP w w' (.slice A' (partsL D.pg a k).length c') ((partsL D.pg a k).map Pt.rg):=by
 have H:=hJ h
 have hb4:=hD.b4
 have hpl:=partsL_cnt (z:=D.pg) (a:=a) (n:=k) hb4.1 hb4.2 hk
 obtain ⟨R,hR⟩:∃R,R=partsL D.pg a k:=⟨_,rfl⟩
 rw [←hR] at hpl ⊢
 have HR:=hJ hR
 clear h hR
 go_enter Tryz.func62,Tryz.ntmps62
 go_wp2
 go_loopw [1,2,7,8] (fun va vn vo v8 wr=>∃(a' n':Nat) (M:List Pt) (A':Option Addr) (c':Nat),va=.int .i64 (a':Nat)∧vn=.int .i64 (n':Nat)∧vo=.slice A' M.length c'∧R=M ++ partsL D.pg a' n'∧a'+n'=a+k∧n'≤k∧FrP w wr (.slice A' M.length c') (M.map Pt.rg)) (fun _ vn _ _ _=>(intOf vn).toNat)
 case atStart=>exact ⟨a,k,[],none,0,rfl,rfl,rfl,HR.out,rfl,Nat.le_refl _,FrP.nil w⟩
 case round=>
  obtain ⟨a',n',M,A1,c1,rfl,rfl,rfl,hRM,hsum,hnk,hfr⟩:=hrel
  have HF:=hJ hfr
  have HRM:=hJ hRM
  have hs:=H.out.up hfr.2
  have c4:=hs.page hD
  have lX:=hs.ltX
  clear hfr
  by_cases hn0:n'=0
  · subst hn0
    have HRE:Hid (M=R):=hJ (by rw [hRM,partsL_zero,List.append_nil])
    clear hRM hs
    go_wp2
    go_ret
    rw [←HRE.out]
    exact ⟨_,_,rfl,HF.out⟩
  · have hn1:(0:Int)<(n':Int):=by omega
    have HC:=hJ (partsL_cons (z:=D.pg) (a:=a') (by omega) hn0)
    have hml:=Nat.mod_lt a' (show 0<D.pg by omega)
    obtain ⟨q,hq⟩:∃q,q=a' / D.pg:=⟨_,rfl⟩
    obtain ⟨o,ho⟩:∃o,o=a'%D.pg:=⟨_,rfl⟩
    have hlen:M.length+1≤R.length:=by rw [hRM,HC.out];simp
    have i3:(D.pg:Int)≠0:=by omega
    have e1:((a':Int)).tdiv (D.pg:Int)=(q:Int):=by rw [tdiv_nat,hq]
    have e2:((a':Int)).tmod (D.pg:Int)=(o:Int):=by rw [tmod_nat,ho]
    have e1':((a':Int)) / (D.pg:Int)=(q:Int):=by rw [hq];simp
    have e2':((a':Int))%(D.pg:Int)=(o:Int):=by rw [ho];simp
    have i4:¬D.pg=0:=by omega
    have l1:q≤a':=by rw [hq];exact Nat.div_le_self _ _
    have w1':IntKind.i64.wrap (q:Int)=(q:Int):=IntWalk.i64_in _ (by omega)
    rw [←ho] at hml
    rw [←hq,←ho] at HC
    clear hs hq ho hRM
    go_upto_region 3 with (fail)
    go_region_held3 (fun w'=>w'.cell? ⟨D.X,4,none⟩=some (.int .i64 (D.pg:Nat)))
     (first|exact c4|go_keep)
     (fail)
    go_upto_region 4 with (fail)
    refine wp_forget (fun V=>FrP w V (.slice A1 M.length c1) (M.map Pt.rg)∧Rg3 V wr.heap.size (q:Nat) (o:Nat) 0∧(∀j,V.frozen? ⟨wr.heap.size,j,none⟩=false)∧V.cell? ⟨D.X,4,none⟩=some (.int .i64 (D.pg:Nat))) ?_ ?_
    · have hb:Below wr.heap.size wr (wr.alloc (.cells #[.int .i64 (q:Nat),.int .i64 (o:Nat),.int .i64 0] 120)):=jB.alloc jN _
      have hn:=FndAt.new wr (q:Nat) (o:Nat) 0 120
      have hr:=Rg3.new wr (q:Nat) (o:Nat) 0 120
      exact ⟨HF.out.up hb.drew,hr.up (by exact jB.drew),fun j=>hn.f j,(hb.cell (p:=⟨D.X,4,none⟩) lX).trans c4⟩
    rintro V ⟨hf,hr3,hfz,d4⟩
    obtain ⟨b8,hb8⟩:∃g,wr.heap.size=g:=⟨_,rfl⟩
    rw [hb8] at hr3 hfz
    rw [hb8]
    have HFV:=hJ hf
    have HR3:=hJ hr3
    have HFZ:=hJ hfz
    have x1:=hr3.c1
    have x2:=hr3.c2
    have f2:=hfz 2
    have lx:=lt_of_cell x1
    have lX2:=lt_of_cell d4
    obtain ⟨kk,hkk⟩:∃kk,kk=min n' (D.pg-o):=⟨_,rfl⟩
    rw [←hkk] at HC
    have w2:IntKind.i64.wrap ((D.pg:Int)-(o:Int))=(D.pg:Int)-(o:Int):=IntWalk.i64_in _ (by omega)
    have hk1:1≤kk∧kk≤n':=by omega
    have HMIN:Hid (min (n':Int) ((D.pg:Int)-(o:Int))=(kk:Int)):=hJ (by omega)
    have HMIN2:Hid ((if (D.pg:Int)-(o:Int)<(n':Int) then (D.pg:Int)-(o:Int) else (n':Int))=(kk:Int)):=hJ (by split<;>omega)
    have HLT:Hid (w.heap.size≤b8∧∀k,(Value.slice A1 M.length c1).ownBlock=some k→k<b8):=hJ (by rw [←hb8];exact ⟨HF.out.2.size,fun k e=>(HF.out.1.lt e).2⟩)
    clear hf hr3 hfz hb8 hkk c4 lX HF e1 e2 e1' e2' w1'
    go_upto_region 4 with (fail)
    go_still_tail 11,(by kernel_rfl)
    change wpList _ _ _ _ _ V.drew
    go_upto_region 5 with (fail)
    first|rw [HMIN.out]|rw [HMIN2.out]
    have HPT:=hJ (show (Pt.mk q o kk).rg=⟨(q:Nat),(o:Nat),(kk:Nat)⟩ from rfl)
    refine wp_forget (fun W=>FrP w W (.slice A1 M.length c1) (M.map Pt.rg)∧Rg3 W b8 (q:Nat) (o:Nat) (kk:Nat)∧b8<W.heap.size) ?_ ?_
    · have hf:=HFV.out
      have ho:Off (· =b8) V (V.setCell ⟨b8,2,none⟩ (.int .i64 (kk:Nat))).drew:=((Off.refl (· =b8) V).setCell (p:=⟨b8,2,none⟩) rfl _).drew
      have ne:∀a,a≠2→(⟨b8,2,none⟩:Addr)≠⟨b8,a,none⟩:=fun a h e=>by injection e with _ e;exact h e.symm
      have hl:=HLT.out
      exact ⟨⟨hf.1.off ho (fun k e e2=>by have:=hl.2 k e;omega),hf.2.trans (ho.below (fun k e=>by rw [e];exact hl.1) hf.2.size)⟩,
       ⟨(World.cell?_setCell_other V _ _ _ (ne 0 (by omega))).trans HR3.out.c0,(World.cell?_setCell_other V _ _ _ (ne 1 (by omega))).trans HR3.out.c1,World.cell?_setCell_same V _ _ HR3.out.c2⟩,Nat.lt_of_lt_of_le lx ho.size⟩
    rintro W ⟨hf,hr3,lb8⟩
    have HFW:=hJ hf
    have y0:=hr3.c0
    have y1:=hr3.c1
    have y2:=hr3.c2
    have HR4:=hJ hr3
    obtain ⟨A2,c2,w2,hr2,hf2,hof2⟩:=hf.push ⟨(q:Nat),(o:Nat),(kk:Nat)⟩ 120 (by simp;omega) 117
    have hr5:Rg3 w2 b8 (q:Nat) (o:Nat) (kk:Nat):=hr3.off hof2 (fun e=>by have:=HLT.out.2 b8 e;omega)
    have z2:=hr5.c2
    have lz:=lt_of_cell z2
    rw [List.length_map] at hr2 hf2
    have HF2:=hJ hf2
    clear hf hf2 hof2 hr3 hr5 x1 x2 f2 lx d4 lX2 HFV HR3 HFZ
    have w3':IntKind.i64.wrap ((a':Int)+(kk:Int))=((a'+kk:Nat):Int):=by rw [IntWalk.i64_in _ (by omega)];omega
    have w4':IntKind.i64.wrap ((n':Int)-(kk:Int))=((n'-kk:Nat):Int):=by rw [IntWalk.i64_in _ (by omega)];omega
    go_upto_region 6 with (at_builtin;go_must (refine wpList_append_run rfl (.tmp 37) (.tmp 39) 117 rfl _ _ rfl rfl hr2 ?_))
    go_quiet (fail)
    go_wp2
    go_roundw
    case rel=>
     refine ⟨a'+kk,n'-kk,M ++ [⟨q,o,kk⟩],A2,c2,rfl,rfl,by simp,?_,by omega,by omega,?_⟩
     · rw [HRM.out,HC.out,List.append_assoc];rfl
     · have hf:=HF2.out
       rw [List.map_append,List.length_append]
       exact ⟨hf.1.off (S:=fun _=>False) ⟨rfl,rfl,rfl,Nat.le_refl _,fun _ _ _=>rfl⟩ (fun _ _=>id),below_drewN hf.2 _⟩
    case measure=>simp [intOf];omega
end
set_option maxRecDepth 100000
set_option maxHeartbeats 4000000
open Go.RowKit Go.Maps
abbrev Cu:=Int→Option (Bytes×Int)
def updU (C:Cu) (id:Int) (x:Option (Bytes×Int)):Cu:=fun k=>if k=id then x else C k
theorem updU_same (C:Cu) (i:Int) (x:Option (Bytes×Int)):updU C i x i=x:=by unfold updU;rw [if_pos rfl]
theorem updU_ne (C:Cu) (x:Option (Bytes×Int)) {i j:Int} (h:j≠i):updU C i x j=C j:=by unfold updU;rw [if_neg h]
structure Pv {σ:Type} {K:SnkF σ} (M:Snk K) (P:PSnk K) (w:World) (d:PD) (t:PSt σ) (C:Cu) (k:Nat):Prop where
 at_:PgrAt M w d t
 inv:PI P d t
 hole:t.hole=none
 dom:∀i,C i=none→t.pm i=none
 con:∀i b u,C i=some (b,u)→∃x,t.pm i=some x∧cont (P.rd t.s) d.z x=some b∧b.length=d.z∧x.uses=u
 rdy:K.Rdy t.s k
 nb:t.nx+k≤2000000
 id1:∀i p,C i=some p→1≤i∧i<t.nx
structure Nx {σ:Type} {K:SnkF σ} (P:PSnk K) (w w':World) (d:PD) (t t':PSt σ):Prop where
 off:Off (Own d t) w w'
 own:∀k,Own d t' k→Own d t k∨w.heap.size≤k
 rm:P.room t.s<0→P.room t'.s<0
section
variable {σ:Type} {K:SnkF σ} {M:Snk K} {P:PSnk K} {w w' w1 w2:World} {d:PD} {t t' t1 t2:PSt σ} {C C':Cu} {k k1 k2:Nat} {id u:Int} {E:Int→Prop} {b:Bytes} {p:Bytes×Int}
theorem Nx.refl:Nx P w w d t t:=⟨Off.refl _ _,fun _=>.inl,id⟩
theorem Nx.of (h:Stp M P w w' d t t') (hr:P.room t.s<0→P.room t'.s<0):Nx P w w' d t t':=⟨h.off,h.own,hr⟩
theorem Nx.up (h:Nx P w w1 d t t') (hb:Below w1.heap.size w1 w2):Nx P w w2 d t t':=⟨h.off.step hb,h.own,h.rm⟩
theorem Nx.trans (h:Nx P w w1 d t t1) (g:Nx P w1 w2 d t1 t2):Nx P w w2 d t t2:=by
 refine ⟨h.off.late g.off (fun i hi ho=>?_),fun i ho=>?_,fun e=>g.rm (h.rm e)⟩
 · rcases h.own i ho with e|e
   · exact e
   · omega
 · rcases g.own i ho with e|e
   · exact h.own i e
   · have:=h.off.size;exact .inr (by omega)
theorem Nx.keep (h:Nx P w w' d t t') {b:Nat} (hb:b<w.heap.size) (hn:¬Own d t b):b<w'.heap.size∧¬Own d t' b:=
 ⟨Nat.lt_of_lt_of_le hb h.off.size,fun e=>(h.own b e).elim hn (fun e=>by omega)⟩
theorem Nx.cell (h:Nx P w w' d t t') {b o:Nat} (hb:b<w.heap.size) (hn:¬Own d t b):w'.cell? ⟨b,o,none⟩=w.cell? ⟨b,o,none⟩:=h.off.cell (p:=⟨b,o,none⟩) hb hn
theorem Pv.lt (h:Pv M P w d t C k) {b:Nat} (hb:Own d t b):b<w.heap.size:=h.at_.ltO hb
theorem Pv.up (h:Pv M P w d t C k) (hb:Below w.heap.size w w'):Pv M P w' d t C k:=⟨h.at_.up hb,h.inv,h.hole,h.dom,h.con,h.rdy,h.nb,h.id1⟩
theorem Pv.less (hK:K.Good) (h:Pv M P w d t C k) {k':Nat} (hk:k'≤k):Pv M P w d t C k':=⟨h.at_,h.inv,h.hole,h.dom,h.con,hK.mono _ _ _ h.rdy hk,by have:=h.nb;omega,h.id1⟩
theorem Pv.offL {L:Nat→Prop} (h:Pv M P w d t C k) (ho:Off L w w') (hL:∀b,L b→¬Own d t b):Pv M P w' d t C k:=
 ⟨h.at_.off ho (fun k hk e=>hL k e (.inl hk)) (M.off h.at_.at_ ho (fun k e hk=>hL k e (.inr hk))) (fun _=>.inl),h.inv,h.hole,h.dom,h.con,h.rdy,h.nb,h.id1⟩
theorem Pv.idb (h:Pv M P w d t C k) (hC:C id=some p): -9223372036854775808≤id∧id≤9223372036854775807:=by
 obtain ⟨h1,h2⟩:=h.id1 id p hC
 have:=h.nb
 omega
theorem Pv.at1 (hK:K.Good) (h:Pv M P w d t C k) (hk:1≤k):K.Rdy t.s 1:=hK.mono _ _ _ h.rdy hk
theorem Pv.nxb (h:Pv M P w d t C k):t.nx<4611686018427387904:=by have:=h.nb;omega
theorem Pv.step (hK:K.Good) (h:Pv M P w d t C k) {j:Nat} (hs:Stp M P w w' d t t') (he:Ev P d.z j none9 t t') (hn:Num t t') (hk:k1+j≤k):Pv M P w' d t' C k1:=by
 refine ⟨hs.at_,hs.inv,by rw [hn.hole];exact h.hole,fun i hi=>he.no i (fun e=>e) (h.dom i hi),fun i b u hb=>?_,he.rdy _ (hK.mono _ _ _ h.rdy hk),by rw [hn.nx];have:=h.nb;omega,fun i o e=>by rw [hn.nx];exact h.id1 i o e⟩
 obtain ⟨x,e1,e2,e3,e4⟩:=h.con i b u hb
 obtain ⟨x',f1,_,_,f4,_,f6⟩:=he.pg i x (fun e=>e) e1
 exact ⟨x',f1,f6 b e2,e3,f4.trans e4⟩
theorem Pv.put (hK:K.Good) (h:Pv M P w d t C k) {j:Nat} {x':Pg} (hs:Stp M P w w' d t t') (he:Ev P d.z j (· =id) t t') (hn:Num t t') (hk:k1+j≤k) (hC:C id=some p) (hx:t'.pm id=some x') (hc:cont (P.rd t'.s) d.z x'=some b) (hl:b.length=d.z) (hu:x'.uses=u):Pv M P w' d t' (updU C id (some (b,u))) k1:=by
 refine ⟨hs.at_,hs.inv,by rw [hn.hole];exact h.hole,fun i hi=>?_,fun i b' u' hb=>?_,he.rdy _ (hK.mono _ _ _ h.rdy hk),by rw [hn.nx];have:=h.nb;omega,fun i o' e=>?_⟩
 · unfold updU at hi
   split at hi
   · cases hi
   · rename_i hne
     exact he.no i hne (h.dom i hi)
 · unfold updU at hb
   split at hb
   · rename_i hid
     cases hb
     rw [hid]
     exact ⟨x',hx,hc,hl,hu⟩
   · rename_i hne
     obtain ⟨x,e1,e2,e3,e4⟩:=h.con i b' u' hb
     obtain ⟨x2,f1,_,_,f4,_,f6⟩:=he.pg i x hne e1
     exact ⟨x2,f1,f6 b' e2,e3,f4.trans e4⟩
 · rw [hn.nx]
   unfold updU at e
   split at e
   · rename_i hid
     rw [hid]
     exact h.id1 id p hC
   · exact h.id1 i o' e
theorem Pv.more (hK:K.Good) (h:Pv M P w d t C k) {j:Nat} {y:Pg} (hs:Stp M P w w' d t t') (hm:Mk P d.z j t t' y) (hk:k1+j+1≤k) (hc:cont (P.rd t'.s) d.z y=some b) (hl:b.length=d.z) (hu:y.uses=u):Pv M P w' d t' (updU C t.nx (some (b,u))) k1:=by
 refine ⟨hs.at_,hs.inv,hm.hole,fun i hi=>?_,fun i b' u' hb=>?_,hm.ev.rdy _ (hK.mono _ _ _ h.rdy (by omega)),by rw [hm.nx];have:=h.nb;omega,fun i o' e=>?_⟩
 · unfold updU at hi
   split at hi
   · cases hi
   · rename_i hne
     exact hm.ev.no i hne (h.dom i hi)
 · unfold updU at hb
   split at hb
   · rename_i hid
     cases hb
     rw [hid]
     exact ⟨y,hm.pg,hc,hl,hu⟩
   · rename_i hne
     obtain ⟨x,e1,e2,e3,e4⟩:=h.con i b' u' hb
     obtain ⟨x2,f1,_,_,f4,_,f6⟩:=hm.ev.pg i x hne e1
     exact ⟨x2,f1,f6 b' e2,e3,f4.trans e4⟩
 · rw [hm.nx]
   unfold updU at e
   split at e
   · rename_i hid
     rw [hid]
     have:=h.inv.nx1
     omega
   · obtain ⟨g1,g2⟩:=h.id1 i o' e
     exact ⟨g1,by omega⟩
theorem Pv.del (h:Pv M P w d t C k) (hs:Stp M P w w' d t t') (hp:t'.pm=updP t.pm id none) (hx:t'.nx=t.nx) (hh:t'.hole=t.hole) (hss:t'.s=t.s):Pv M P w' d t' (updU C id none) k:=by
 refine ⟨hs.at_,hs.inv,by rw [hh];exact h.hole,fun i hi=>?_,fun i b' u' hb=>?_,by rw [hss];exact h.rdy,by rw [hx];exact h.nb,fun i o' e=>?_⟩
 · rw [hp]
   unfold updU at hi
   unfold updP
   split
   · rfl
   · rename_i hne
     rw [if_neg hne] at hi
     exact h.dom i hi
 · unfold updU at hb
   split at hb
   · cases hb
   · rename_i hne
     obtain ⟨x,e1,e2,e3,e4⟩:=h.con i b' u' hb
     rw [hp,hss]
     exact ⟨x,(updP_ne _ _ hne).trans e1,e2,e3,e4⟩
 · rw [hx]
   unfold updU at e
   split at e
   · cases e
   · exact h.id1 i o' e
theorem Pv.uses (h:Pv M P w d t C k) {x:Pg} {v:Int} (hx:t.pm id=some x) (hC:C id=some (b,u)) (hs:Stp M P w w' d t {t with pm:=updP t.pm id (some {x with uses:=v})}):Pv M P w' d {t with pm:=updP t.pm id (some {x with uses:=v})} (updU C id (some (b,v))) k:=by
 refine ⟨hs.at_,hs.inv,h.hole,fun i hi=>?_,fun i b' u' hb=>?_,h.rdy,h.nb,fun i o' e=>?_⟩
 · unfold updU at hi
   split at hi
   · cases hi
   · rename_i hne
     exact (updP_ne _ _ hne).trans (h.dom i hi)
 · unfold updU at hb
   split at hb
   · rename_i hid
     cases hb
     rw [hid]
     obtain ⟨y,e1,e2,e3,e4⟩:=h.con id b u hC
     rw [hx] at e1
     cases e1
     exact ⟨_,updP_same _ _ _,e2,e3,rfl⟩
   · rename_i hne
     obtain ⟨y,e1,e2,e3,e4⟩:=h.con i b' u' hb
     exact ⟨y,(updP_ne _ _ hne).trans e1,e2,e3,e4⟩
 · unfold updU at e
   split at e
   · rename_i hid
     rw [hid]
     exact h.id1 id _ hC
   · exact h.id1 i o' e
theorem Pv.sinkS (h:Pv M P w d t C k) {s':σ} (ha:PgrAt M w' d {t with s:=s'}) (hsame:SkSame P t.s s'):Pv M P w' d {t with s:=s'} C k:=by
 refine ⟨ha,⟨hsame.inn,h.inv.kv,h.inv.pz,h.inv.res,h.inv.has,fun i x hx hp=>?_,h.inv.zer,h.inv.dty,h.inv.ids,h.inv.hol,h.inv.nx1⟩,h.hole,h.dom,fun i b u hb=>?_,hsame.rdy _ h.rdy,h.nb,h.id1⟩
 · have:=h.inv.put i x hx hp
   rw [←hsame.rd] at this
   exact this
 · obtain ⟨x,e1,e2,e3,e4⟩:=h.con i b u hb
   refine ⟨x,e1,?_,e3,e4⟩
   show cont (P.rd s') d.z x=some b
   rw [hsame.rd]
   exact e2
end
set_option maxRecDepth 100000
set_option maxHeartbeats 4000000
def decU (x:Option (Bytes×Int)):Option (Bytes×Int):=match x with
 |none=>none
 |some (b,u)=>if 1<u then some (b,u-1) else none
section
variable {σ:Type} {K:SnkF σ} {M:Snk K} {P:PSnk K} {w w' w1 w2:World} {d:PD} {t t' t1 t2:PSt σ} {C C':Cu} {k k1 k2:Nat} {id u:Int} {E:Int→Prop} {b:Bytes} {p:Bytes×Int}
theorem pv_make (hK:K.Good) (h:Pv M P w d t C (k+1)):Calls Tryz.prog 105 #[.pointer (some ⟨d.Q,0,none⟩)] w fun e w'=>
 e=.returned (.int .i64 (t.nx:Nat))∧∃t',Pv M P w' d t' (updU C t.nx (some (zeros d.z,0))) k∧Nx P w w' d t t'∧t'.nx=t.nx+1∧t'.cm=t.cm+1:=by
 refine (make_any (P:=P) hK h.at_ h.inv h.hole h.nxb).mono ?_
 rintro e w' ⟨t',y,rfl,hs,hm,h1,h2,h3,h4,h5,h6⟩
 exact ⟨rfl,t',h.more hK (j:=0) hs hm jN (by unfold cont;rw [h1,h4];rfl) (zeros_length _) h5,Nx.of hs hm.ev.room,hm.nx,hm.cm⟩
theorem pv_read (hK:K.Good) (hmi:P.Miss) (h:Pv M P w d t C (k+1)) (hC:C id=some (b,u)) {off n:Nat} (hin:off+n≤d.z):Calls Tryz.prog 27 #[.pointer (some ⟨d.Q,0,none⟩),.int .i64 id,.int .i64 (off:Nat),.int .i64 (n:Nat)] w fun e w'=>
 ∃ t',Pv M P w' d t' C k∧Nx P w w' d t t'∧t'.nx=t.nx∧t'.cm=t.cm∧
   ((∃A c,e=.returned (.tuple #[.slice A n c,.int .i64 0])∧SlB w' (.slice A n c) (secP b off n)∧VIn (fun k=>¬Own d t' k∧w.heap.size≤k) (.slice A n c))∨
    (e=.returned (.tuple #[.slice none 0 0,.int .i64 P.ez])∧¬P.room t.s<0)):=by
 refine (read_any (P:=P) hK hmi h.at_ h.inv h.hole (h.idb hC) (by have:=h.nb;omega) (h.at1 hK (by omega)) (off:Int) (n:Int)).mono ?_
 rintro e w' ⟨t',v,er,rfl,hs,he,hn,hc⟩
 obtain ⟨x,hx,hcx,hl,hu⟩:=h.con id b u hC
 have hinb:inB d.z (off:Int) (n:Int)=true:=inB_iff.2 (by omega)
 have hv:=h.step hK (j:=1) (k1:=k) hs he hn jN
 refine ⟨t',hv,Nx.of hs he.room,hn.nx,hn.cm,?_⟩
 rcases hc with ⟨rfl,_,y,L,hy,hL,_,⟨A,c,hv⟩,g1,g2⟩|⟨rfl,hc⟩
 · rw [hx] at hy
   cases hy
   rw [hcx] at hL
   cases hL
   simp only [Int.toNat_natCast] at hv g1
   subst hv
   exact .inl ⟨A,c,rfl,g1,g2⟩
 · rcases hc with ⟨_,hc⟩|⟨_,hc,_⟩|⟨_,y,hy,⟨rfl,hc⟩|⟨_,hc⟩⟩
   · rw [hx] at hc;cases hc
   · rw [hinb] at hc;cases hc
   · exact .inr ⟨rfl,by omega⟩
   · rw [hx] at hy
     cases hy
     rw [hcx] at hc
     cases hc
theorem pv_read_none (hK:K.Good) (hmi:P.Miss) (h:Pv M P w d t C (k+1)) (hC:C id=none) (hid: -9223372036854775808≤id∧id≤9223372036854775807) {off n:Int}:Calls Tryz.prog 27 #[.pointer (some ⟨d.Q,0,none⟩),.int .i64 id,.int .i64 off,.int .i64 n] w fun e w'=>
 ∃t',e=.returned (.tuple #[.slice none 0 0,.int .i64 2])∧Pv M P w' d t' C k∧Nx P w w' d t t'∧t'.nx=t.nx∧t'.cm=t.cm:=by
 have hpm:=h.dom id hC
 refine (read_any (P:=P) hK hmi h.at_ h.inv h.hole hid (by have:=h.nb;omega) (h.at1 hK (by omega)) off n).mono ?_
 rintro e w' ⟨t',v,er,rfl,hs,he,hn,hc⟩
 rcases hc with ⟨rfl,_,y,L,hy,_⟩|⟨rfl,hc⟩
 · rw [hpm] at hy;cases hy
 · rcases hc with ⟨rfl,hc⟩|⟨rfl,_,hc⟩|⟨_,y,hy,_⟩
   · exact ⟨t',rfl,h.step hK (j:=1) hs he hn jN,Nx.of hs he.room,hn.nx,hn.cm⟩
   · exact absurd hpm hc
   · rw [hpm] at hy;cases hy
section
variable {A:Option Addr} {n cb:Nat} {by_:Bytes}
theorem pv_write (hK:K.Good) (hmi:P.Miss) (h:Pv M P w d t C (k+1)) (hC:C id=some (b,u)) {off:Nat} (hS:SBy w A n by_) (hin:off+n≤d.z) (hV:VIn (fun k=>¬Own d t k) (.slice A n cb)):Calls Tryz.prog 106 #[.pointer (some ⟨d.Q,0,none⟩),.int .i64 id,.int .i64 (off:Nat),.slice A n cb] w fun e w'=>
 ∃ t',Nx P w w' d t t'∧t'.nx=t.nx∧t'.cm=t.cm∧
   ((e=.returned (.int .i64 0)∧Pv M P w' d t' (updU C id (some (setB b off by_,u))) k)∨
    (e=.returned (.int .i64 P.ez)∧¬P.room t.s<0∧Pv M P w' d t' C k)):=by
 have hz:=h.at_.zs.2
 refine (write_any (P:=P) hK hmi h.at_ h.inv h.hole (h.idb hC) (by have:=h.nb;omega) (h.at1 hK (by omega)) (off:Int) hS (by omega) hV).mono ?_
 rintro e w' ⟨t',er,rfl,hs,hn,hc⟩
 obtain ⟨x,hx,hcx,hl,hu⟩:=h.con id b u hC
 have hinb:inB d.z (off:Int) (by_.length:Int)=true:=inB_iff.2 (by have:=hS.1;omega)
 rcases hc with ⟨rfl,he,_,y,y',L,hy,hL,hLl,hy',_,hus,hc'⟩|⟨he,hc⟩
 · rw [hx] at hy
   cases hy
   rw [hcx] at hL
   cases hL
   simp only [Int.toNat_natCast] at hc'
   exact ⟨t',Nx.of hs he.room,hn.nx,hn.cm,.inl ⟨rfl,h.put hK (j:=1) hs he hn jN hC hy' hc' (by rw [setB_len (by have:=hS.1;omega)];exact hl) (hus.trans hu)⟩⟩
 · rcases hc with ⟨_,hc⟩|⟨_,hc,_⟩|⟨_,y,hy,⟨rfl,hc⟩|⟨_,hc⟩⟩
   · rw [hx] at hc;cases hc
   · rw [hinb] at hc;cases hc
   · exact ⟨t',Nx.of hs he.room,hn.nx,hn.cm,.inr ⟨rfl,by omega,h.step hK (j:=1) hs he hn jN⟩⟩
   · rw [hx] at hy
     cases hy
     rw [hcx] at hc
     cases hc
end
theorem pv_peek (hK:K.Good) (hmi:P.Miss) (h:Pv M P w d t C k) (hC:C id=some (b,u)):Calls Tryz.prog 102 #[.pointer (some ⟨d.Q,0,none⟩),.int .i64 id] w fun e w'=>
 ∃t' v,e=.returned (.tuple #[v,.int .i64 0])∧Pv M P w' d t' C k∧Nx P w w' d t t'∧t'.nx=t.nx∧t'.cm=t.cm∧(∀g,Own d t' g ↔ Own d t g)∧FreshBy w w' d.z v b:=by
 obtain ⟨x,hx,hcx,hl,hu⟩:=h.con id b u hC
 refine (peekp_any (P:=P) hK hmi h.at_ h.hole (h.idb hC) hx h.inv.inn).mono ?_
 rintro e w' ⟨s',v,er,rfl,ha,ho,hsame,hc⟩
 rcases hc with ⟨L,hL,hlL,rfl,hf⟩|⟨hL,_⟩
 · rw [hcx] at hL
   cases hL
   exact ⟨{t with s:=s'},v,rfl,h.sinkS ha hsame,⟨ho.mono fun k e=>.inr e,fun k e=>.inl e,fun e=>by show P.room s'<0;rw [hsame.room];exact e⟩,rfl,rfl,fun g=>Iff.rfl,hf⟩
 · rw [hcx] at hL;cases hL
theorem pv_has (h:Pv M P w d t C k) (hid: -9223372036854775808≤id∧id≤9223372036854775807):Calls Tryz.prog 77 #[.pointer (some ⟨d.Q,0,none⟩),.int .i64 id] w fun e w'=>e=.returned (.bool (C id).isSome)∧w'=w:=by
 refine (has_any h.at_ h.hole hid).mono ?_
 rintro e w' ⟨rfl,rfl⟩
 refine ⟨?_,rfl⟩
 cases hC:C id with
 |none=>rw [h.dom id hC];rfl
 | some p=>
   obtain ⟨x,hx,_⟩:=h.con id p.1 p.2 hC
   rw [hx];rfl
theorem pv_shared (h:Pv M P w d t C k) (hC:C id=some (b,u)):Calls Tryz.prog 103 #[.pointer (some ⟨d.Q,0,none⟩),.int .i64 id] w fun e w'=>e=.returned (.bool (decide (1<u)))∧w'=w:=by
 obtain ⟨x,hx,_,_,hu⟩:=h.con id b u hC
 refine (shared_any h.at_ h.hole (h.idb hC)).mono ?_
 rintro e w' ⟨rfl,rfl⟩
 refine ⟨?_,rfl⟩
 unfold sharedP
 rw [hx]
 simp only
 rw [hu]
theorem pv_keep (h:Pv M P w d t C k) (hC:C id=some (b,u)) (hu:0≤u∧u≤1000000):Calls Tryz.prog 66 #[.pointer (some ⟨d.Q,0,none⟩),.int .i64 id] w fun e w'=>
 e=.returned (.tuple #[])∧∃t',Pv M P w' d t' (updU C id (some (b,u+1))) k∧Nx P w w' d t t'∧t'.nx=t.nx∧t'.cm=t.cm:=by
 obtain ⟨x,hx,_,_,hxu⟩:=h.con id b u hC
 refine (keep_any (P:=P) h.at_ h.inv h.hole (h.idb hC) (fun y hy=>by rw [hx] at hy;cases hy;omega)).mono ?_
 rintro e w' ⟨rfl,hc⟩
 rw [hx] at hc
 simp only at hc
 rw [hxu] at hc
 exact ⟨rfl,_,h.uses hx hC hc,Nx.of hc (fun e=>e),rfl,rfl⟩
theorem pv_let (h:Pv M P w d t C k) (hC:C id=some (b,u)) (hu:0≤u∧u≤1000000):Calls Tryz.prog 65 #[.pointer (some ⟨d.Q,0,none⟩),.int .i64 id] w fun e w'=>
 e=.returned (.tuple #[])∧∃t',Pv M P w' d t' (updU C id (decU (C id))) k∧Nx P w w' d t t'∧t'.nx=t.nx∧t'.cm=if 1<u then t.cm else t.cm-1:=by
 obtain ⟨x,hx,_,_,hxu⟩:=h.con id b u hC
 refine (let_any (P:=P) h.at_ h.inv h.hole (h.idb hC) hx (by omega)).mono ?_
 rintro e w' ⟨rfl,hc⟩
 rw [hxu] at hc
 rw [hC]
 rcases hc with ⟨h1,hs⟩|⟨h1,t',hs,g1,g2,g3,g4,g5⟩
 · refine ⟨rfl,_,?_,Nx.of hs (fun e=>e),rfl,by rw [if_pos h1]⟩
   have:=h.uses hx hC hs
   unfold decU
   simp only
   rw [if_pos h1]
   exact this
 · refine ⟨rfl,t',?_,Nx.of hs (fun e=>by rw [g5];exact e),g3,by rw [if_neg (by omega)];exact g2⟩
   have:=h.del hs g1 g3 g4 g5
   unfold decU
   simp only
   rw [if_neg (by omega)]
   exact this
theorem pv_drop (h:Pv M P w d t C k) (hC:C id=some p):Calls Tryz.prog 64 #[.pointer (some ⟨d.Q,0,none⟩),.int .i64 id] w fun e w'=>
 e=.returned (.int .i64 0)∧∃t',Pv M P w' d t' (updU C id none) k∧Nx P w w' d t t'∧t'.nx=t.nx∧t'.cm=t.cm-1:=by
 obtain ⟨x,hx,_⟩:=h.con id p.1 p.2 hC
 refine (drop_any (P:=P) h.at_ h.inv h.hole (h.idb hC)).mono ?_
 rintro e w' ⟨t',er,rfl,hs,⟨_,hc,_⟩|⟨rfl,_,g1,g2,g3,g4,g5⟩⟩
 · rw [hx] at hc;cases hc
 · exact ⟨rfl,t',h.del hs g1 g3 g4 g5,Nx.of hs (fun e=>by rw [g5];exact e),g3,g2⟩
theorem pv_evict (hK:K.Good) (hmi:P.Miss) (h:Pv M P w d t C (k+(d.n+1))) (n:Int):Calls Tryz.prog 47 #[.pointer (some ⟨d.Q,0,none⟩),.int .i64 n] w fun e w'=>
 ∃(t':PSt σ) (v:Int),e=.returned (.int .i64 v)∧Pv M P w' d t' C k∧Nx P w w' d t t'∧t'.nx=t.nx∧t'.cm=t.cm:=by
 refine (evict_any (P:=P) hK hmi h.at_ h.inv h.hole (by have:=h.nb;omega) (hK.mono _ _ _ h.rdy (by omega)) n).mono ?_
 rintro e w' ⟨t',j,rfl,hs,he,hn,hc⟩
 exact ⟨t',_,rfl,h.step hK (j:=d.n+1) hs he hn jN,Nx.of hs he.room,hn.nx,hn.cm⟩
end
set_option maxRecDepth 100000
set_option maxHeartbeats 4000000
theorem zeroCells_u8 (m:Nat):(Builtin.zeroCells #[.int .u8 0] m).toList=(zeros m).map bv:=by
 apply List.ext_getElem?
 intro i
 by_cases hi:i<m
 · simp [Builtin.zeroCells,zeros,hi,bv,Nat.mod_one]
 · rw [List.getElem?_eq_none (by simp [Builtin.zeroCells];omega),List.getElem?_eq_none (by rw [List.length_map,zeros_length];omega)]
theorem run_asInt64 (n:Int) (w:World):(asInt (.int .i64 n)).run Tryz.prog w=.ok n w:=by simp [asInt,asIntOf]
theorem run_appZ2 {B:Nat} {w:World} {v:Value} {L:Bytes} {m:Nat} (hown:OwB B w v L) (hv:v.ownBlock≠none) (hB:B≤w.heap.size) (hlen:L.length+m≤1073741824) (ty:TypeId):
 ∃v' w',(Builtin.append_ #[24,3] ty #[v,.int .i64 (m:Nat)]).run Tryz.prog w=.ok v' w'∧OwB B w' v' (L ++ zeros m)∧w.grownBy w' v.ownBlock∧(v'.ownBlock=v.ownBlock∨v'.ownBlock=some w.heap.size):=by
 obtain ⟨i,hi,hz0,hz1,hz2⟩:=info_parts byte_info
 rcases hown.2 with ⟨h0,_⟩|⟨g,cap,cur,rfl,hb,hg,h1,h2,h3,h4⟩
 · rw [h0] at hv;exact absurd rfl hv
 have hm0:¬((m:Int)<0):=by omega
 have hw:IntKind.i64.wrap (m:Int)=(m:Int):=IntWalk.i64_in _ (by omega)
 have h48:¬(281474976710656<(m:Int)):=by omega
 have hlz:(L ++ zeros m).length=L.length+m:=by rw [List.length_append,zeros_length]
 rw [Nat.mul_one] at h3 h4
 have hmap:(L ++ zeros m).map bv=L.map bv ++ (zeros m).map bv:=List.map_append
 by_cases hroom:L.length+m≤cap
 · refine ⟨.slice (some ⟨g,0,none⟩) (L ++ zeros m).length cap,w.setRow g (cur.toList.take L.length ++ (zeros m).map bv ++ cur.toList.drop (L.length+m)).toArray,?_,⟨by rw [List.length_map,Nat.mul_one],.inr ⟨g,cap,_,rfl,hb,setRow_heap w g cur _ 5 _ hg,by rw [hlz];exact hroom,h2,?_,?_⟩⟩,⟨rfl,rfl,rfl,by simp,fun k _ hk=>setRow_other w g k _ (fun e=>hk (by simp [Value.ownBlock,e]))⟩,Or.inl rfl⟩
   · have hst:=run_storeCells_at Tryz.prog g L.length 5 ((zeros m).map bv) 0 cur w hg (by rw [List.length_map,zeros_length];omega) (fun u hu=>by
      obtain ⟨x,_,rfl⟩:=List.mem_map.1 hu
      simp [bv,Value.oneCell'])
     simp only [Nat.add_zero,List.length_map,zeros_length] at hst
     rw [hlz]
     by_cases hmz:m=0
     · subst hmz
       have hw0:IntKind.i64.wrap 0=0:=rfl
       simp [hw0,h1,Builtin.append_,run_underlying Tryz.underlying24,run_underlying Tryz.underlying3,sizeOf,typeInfo,hi,hz1,hz2,Builtin.lenOf,hroom,hw,hm0,run_asInt64,Addr.add_lit,zeros,storeCells] at hst ⊢
       exact hst
     · simp [Builtin.append_,run_underlying Tryz.underlying24,run_underlying Tryz.underlying3,sizeOf,typeInfo,hi,hz1,hz2,Builtin.lenOf,hroom,hw,hm0,run_asInt64,Addr.add_lit,hmz,h48,zeroValue,hz0,Value.cells,zeroCells_u8,hst]
   · simp only [List.size_toArray,List.length_append,List.length_take,List.length_drop,Array.length_toList,List.length_map,zeros_length]
     omega
   · rw [hmap,h4,hlz,Nat.mul_one]
     simp only [List.append_assoc]
     rw [←List.append_assoc]
     refine List.take_left' ?_
     rw [List.length_append,List.length_map,List.length_map,zeros_length]
 · have hge:=grownCap_ge w (L.length+m) cap 5
   have hcm:=grownCap_le_maxLen w (L.length+m) cap 5 (by unfold maxLen;omega)
   have h63':¬(9223372036854775807<((L.length:Int)+(m:Int))):=by omega
   have hmz:m≠0:=by omega
   have hfit:=growslice_fits (need:=L.length+m) (old:=cap) (bytes:=1) (by omega) (by omega)
   have h48':¬(281474976710656<Builtin.nextslicecap (L.length+m) cap*1):=by omega
   have h48'':¬(281474976710656<Builtin.nextslicecap (L.length+m) cap):=by omega
   have holds:∀j u,(L.map bv)[j]? =some u→w.cell? ((⟨g,0,none⟩:Addr).add j)=some u:=World.ownsRow.cells hown (g:=g) rfl
   have hfo:=run_firstCells_some (P:=Tryz.prog) w.drew 1 L.length ⟨g,0,none⟩ L.length cap (L.map bv) (by simp) (by simpa using holds)
   refine ⟨.slice (some ⟨w.heap.size,0,none⟩) (L ++ zeros m).length (grownCap w (L.length+m) cap 5),w.drew.alloc (.cells ((L.map bv).toArray ++ ((zeros m).map bv).toArray ++ Builtin.zeroCells #[.int .u8 0] (grownCap w (L.length+m) cap 5-(L.length+m))) 5),?_,
    ⟨by rw [List.length_map,Nat.mul_one],.inr ⟨w.heap.size,_,_,rfl,hB,heap_alloc_new w.drew _,by rw [hlz];exact hge,hcm,?_,?_⟩⟩,⟨rfl,rfl,rfl,by simp,fun k hk _=>heap_alloc_old w.drew _ (h:=hk)⟩,Or.inr rfl⟩
   · have hz:(Builtin.zeroCells #[.int .u8 0] m)=((zeros m).map bv).toArray:=by rw [←zeroCells_u8]
     rw [hlz]
     simp [Builtin.append_,run_underlying Tryz.underlying24,run_underlying Tryz.underlying3,sizeOf,typeInfo,zeroValue,hi,hz0,hz1,hz2,Builtin.lenOf,hroom,hw,hm0,run_asInt64,hmz,h48,h63',h48',h48'',Question.forced,hfo,newRow,grownCap,Value.cells,hz]
     refine congrArg (fun c=>w.drew.alloc (.cells c 5)) ?_
     apply Array.ext'
     simp [List.append_assoc]
   · simp only [Array.size_append,List.size_toArray,size_zeroCells,List.length_map,zeros_length]
     simp
     omega
   · rw [hlz,hmap,Nat.mul_one]
     simp only [Array.toList_append,List.append_assoc]
     rw [←List.append_assoc]
     refine List.take_left' ?_
     rw [List.length_append,List.length_map,List.length_map,zeros_length]
theorem run_make_cap (n:Nat) (hn:n≤2 ^ 24) (w:World):
 ∃cur,(Instr.makeSlice 24 (.int .i64 0) (.int .i64 (n:Int))).run Tryz.prog w=.ok (.slice (some ⟨w.heap.size,0,none⟩) 0 n) (w.alloc (.cells cur 5))∧FrB w (w.alloc (.cells cur 5)) (.slice (some ⟨w.heap.size,0,none⟩) 0 n) []:=by
 obtain ⟨i0,hi,hz0,hz1,hz2⟩:=info_parts byte_info
 have h:=run_make (P:=Tryz.prog) w 24 5 i0 _ Tryz.underlying24 hi hz0 .i64 .i64 0 n (by omega) (by omega) (by rw [hz2];omega) (by omega)
 refine ⟨_,h,World.ownsRow_made w _ n jN (by unfold maxLen;omega) ?_,jB.alloc jN _⟩
 simp [madeCells,Value.cells,hz1]
end Go.Proofs.YtlhfjaagkgengaaGreat
