/- The document's machine: Do: what is refused; the list; a new process. The document's machine: Do: processes come and go. The document's machine: Do: a process forks, ends. -/
import Derived.Test.YtlhfjaagkgengaaGreatPC37
import Derived.Test.YtlhfjaagkgengaaGreatPC39
import Derived.Test.YtlhfjaagkgengaaGreatPC40
namespace Go.Proofs.YtlhfjaagkgengaaGreat
set_option maxRecDepth 100000
open Go.RowKit Go.Maps
set_option linter.unusedVariables false
set_option linter.unusedSimpArgs false
def ansV (err pid:Int) (d ps:Value):Value:=.agg #[.int .i64 err,.int .i64 pid,d,ps]
structure AnAt (w:World) (a:Nat):Prop where
 c0:w.cell? ⟨a,0,none⟩=some (.int .i64 0)
 c1:w.cell? ⟨a,1,none⟩=some (.int .i64 0)
 c2:w.cell? ⟨a,2,none⟩=some (.slice none 0 0)
 c3:w.cell? ⟨a,3,none⟩=some (.slice none 0 0)
 fz:∀i,w.frozen? ⟨a,i,none⟩=false
theorem AnAt.off {w w':World} {a:Nat} {S:Nat→Prop} (h:AnAt w a) (ho:Off S w w') (hs:¬S a):AnAt w' a:=by
 have l:=lt_of_cell h.c0
 exact ⟨(ho.cell (p:=⟨a,0,none⟩) l hs).trans h.c0,(ho.cell (p:=⟨a,1,none⟩) l hs).trans h.c1,(ho.cell (p:=⟨a,2,none⟩) l hs).trans h.c2,(ho.cell (p:=⟨a,3,none⟩) l hs).trans h.c3,fun i=>(ho.frozen (p:=⟨a,i,none⟩) l hs).trans (h.fz i)⟩
theorem AnAt.up {w w':World} {a:Nat} (h:AnAt w a) (hb:Below w.heap.size w w'):AnAt w' a:=h.off (S:=fun _=>False) (Off.of_below hb) id
theorem AnAt.new (w:World):AnAt (w.alloc (.cells #[.int .i64 0,.int .i64 0,.slice none 0 0,.slice none 0 0] 76)) w.heap.size:=by
 have hn:=heap_alloc_new w (.cells #[.int .i64 0,.int .i64 0,.slice none 0 0,.slice none 0 0] 76)
 have hc:∀i v,(#[.int .i64 0,.int .i64 0,.slice none 0 0,.slice none 0 0]:Array Value)[i]? =some v→(w.alloc (.cells #[.int .i64 0,.int .i64 0,.slice none 0 0,.slice none 0 0] 76)).cell? ⟨w.heap.size,i,none⟩=some v:=fun i v hv=>by
  rw [cell_of_row _ _ _ _ _ _ hn];exact hv
 exact ⟨hc 0 _ rfl,hc 1 _ rfl,hc 2 _ rfl,hc 3 _ rfl,fun i=>frozen_of_row _ _ i _ _ hn⟩
def ansW (w:World) (a:Nat) (v0 v1 v2 v3:Value):World:=(((w.setCell ⟨a,0,none⟩ v0).setCell ⟨a,1,none⟩ v1).setCell ⟨a,2,none⟩ v2).setCell ⟨a,3,none⟩ v3
theorem ans_off (w:World) (a:Nat) (v0 v1 v2 v3:Value):Off (· =a) w (ansW w a v0 v1 v2 v3):=
 ((((Off.refl (· =a) w).setCell (p:=⟨a,0,none⟩) rfl _).setCell (p:=⟨a,1,none⟩) rfl _).setCell (p:=⟨a,2,none⟩) rfl _).setCell (p:=⟨a,3,none⟩) rfl _
theorem ans_cells {w:World} {a:Nat} {u0 u1 u2 u3:Value} (c0:w.cell? ⟨a,0,none⟩=some u0) (c1:w.cell? ⟨a,1,none⟩=some u1) (c2:w.cell? ⟨a,2,none⟩=some u2) (c3:w.cell? ⟨a,3,none⟩=some u3) (v0 v1 v2 v3:Value):
 (ansW w a v0 v1 v2 v3).cell? ⟨a,0,none⟩=some v0∧(ansW w a v0 v1 v2 v3).cell? ⟨a,1,none⟩=some v1∧(ansW w a v0 v1 v2 v3).cell? ⟨a,2,none⟩=some v2∧(ansW w a v0 v1 v2 v3).cell? ⟨a,3,none⟩=some v3:=by
 have ne:∀i j:Nat,i≠j→(⟨a,i,none⟩:Addr)≠⟨a,j,none⟩:=fun i j h e=>by injection e with _ e;exact h e
 unfold ansW
 refine ⟨?_,?_,?_,?_⟩
 · rw [World.cell?_setCell_other _ _ _ _ (ne 3 0 (by omega)),World.cell?_setCell_other _ _ _ _ (ne 2 0 (by omega)),World.cell?_setCell_other _ _ _ _ (ne 1 0 (by omega))]
   exact World.cell?_setCell_same _ _ _ c0
 · rw [World.cell?_setCell_other _ _ _ _ (ne 3 1 (by omega)),World.cell?_setCell_other _ _ _ _ (ne 2 1 (by omega))]
   exact World.cell?_setCell_same _ _ _ ((World.cell?_setCell_other _ _ _ _ (ne 0 1 (by omega))).trans c1)
 · rw [World.cell?_setCell_other _ _ _ _ (ne 3 2 (by omega))]
   exact World.cell?_setCell_same _ _ _ ((World.cell?_setCell_other _ _ _ _ (ne 1 2 (by omega))).trans ((World.cell?_setCell_other _ _ _ _ (ne 0 2 (by omega))).trans c2))
 · exact World.cell?_setCell_same _ _ _ ((World.cell?_setCell_other _ _ _ _ (ne 2 3 (by omega))).trans ((World.cell?_setCell_other _ _ _ _ (ne 1 3 (by omega))).trans ((World.cell?_setCell_other _ _ _ _ (ne 0 3 (by omega))).trans c3)))
theorem ans_results {tmps:Array Value} {W:World} {a:Nat} {v0 v1 v2 v3:Value} (h4:tmps.getD 4 undef=.pointer (some ⟨a,0,none⟩)) (c0:W.cell? ⟨a,0,none⟩=some v0) (c1:W.cell? ⟨a,1,none⟩=some v1) (c2:W.cell? ⟨a,2,none⟩=some v2) (c3:W.cell? ⟨a,3,none⟩=some v3):
 (results Tryz.f70 tmps).run Tryz.prog W=.ok (.agg #[v0,v1,v2,v3]) W:=by
 have h4':tmps[4]?.getD undef=.pointer (some ⟨a,0,none⟩):=by rw [←h4];simp [Array.getD_eq_getD_getElem?]
 simp [results,Tryz.results70,go_sem,h4',c0,c1,c2,c3]
theorem ans_end {tmps:Array Value} {w:World} {a:Nat} {v0 v1 v2 v3:Value} {R:Ending→World→Prop} (h4:tmps.getD 4 undef=.pointer (some ⟨a,0,none⟩)) (hA:AnAt w a) (hR:R (.returned (.agg #[v0,v1,v2,v3])) (ansW w a v0 v1 v2 v3)):
 bodyPost Tryz.prog Tryz.f70 R .ret {tmps:=tmps,defers:=[]} (ansW w a v0 v1 v2 v3):=by
 obtain ⟨d0,d1,d2,d3⟩:=ans_cells hA.c0 hA.c1 hA.c2 hA.c3 v0 v1 v2 v3
 exact bodyPost_ret (ans_results h4 d0 d1 d2 d3) rfl hR
section
variable {w w':World} {D:MaD} {P:List (Option MPr)} {p:MPr} {k:Nat}
set_option maxHeartbeats 4000000 in
theorem do_err (w:World) (X:Nat) (kind pid at_ n prot:Int) (A:Option Addr) (m c:Nat) {z:Int} (hz:z≠0) (HCH:Hid (∀V,Below w.heap.size w V→Calls Tryz.prog 88 #[.pointer (some ⟨X,0,none⟩),.agg #[.int .i64 kind,.int .i64 pid,.int .i64 at_,.int .i64 n,.int .i64 prot,.slice A m c]] V fun e w'=>e=.returned (.int .i64 z)∧Below V.heap.size V w')):
 Calls Tryz.prog 70 #[.pointer (some ⟨X,0,none⟩),.agg #[.int .i64 kind,.int .i64 pid,.int .i64 at_,.int .i64 n,.int .i64 prot,.slice A m c]] w fun e w'=>e=.returned (ansV z 0 (.slice none 0 0) (.slice none 0 0))∧Below w.heap.size w w':=by
 have hd:(z !=0)=true:=by simpa using hz
 clear hz
 go_enter Tryz.func70,Tryz.ntmps70
 go_wp2_with fail
 have HB0:Hid (Below w.heap.size w ((w.alloc (.cells #[.int .i64 kind,.int .i64 pid,.int .i64 at_,.int .i64 n,.int .i64 prot,.slice A m c] 47)).alloc (.cells #[.int .i64 0,.int .i64 0,.slice none 0 0,.slice none 0 0] 76))):=hJ ((jB.alloc jN _).alloc (by simp) _)
 refine (HCH.out _ HB0.out).mono ?_
 rintro e w1 ⟨rfl,hb1⟩
 have hA:=(AnAt.new (w.alloc (.cells #[.int .i64 kind,.int .i64 pid,.int .i64 at_,.int .i64 n,.int .i64 prot,.slice A m c] 47))).up hb1
 rw [show (w.alloc (.cells #[.int .i64 kind,.int .i64 pid,.int .i64 at_,.int .i64 n,.int .i64 prot,.slice A m c] 47)).heap.size=w.heap.size+1 by simp] at hA
 have HAN:=hJ hA
 have hz1:w.heap.size+1<w1.heap.size:=lt_of_cell hA.c0
 obtain ⟨a0,a1,a2,a3,af⟩:=hA
 have f0:=af 0
 have f1:=af 1
 have f2:=af 2
 have f3:=af 3
 have HB1:=hJ (HB0.out.trans (hb1.mono HB0.out.size))
 clear hb1 HCH HB0 af
 obtain ⟨a,ha⟩:∃a,w.heap.size+1=a:=⟨_,rfl⟩
 rw [ha] at a0 a1 a2 a3 f0 f1 f2 f3 hz1 HAN ⊢
 have HA:=hJ (show w.heap.size≤a by omega)
 clear ha
 go_wp2
 refine ans_end rfl HAN.out ⟨rfl,HB1.out.trans ((ans_off w1 a _ _ _ _).below (fun k e=>by rw [e];exact HA.out) HB1.out.size)⟩
theorem set_get {E:Type} {l:List E} {k i:Nat} {x y:E} (h:(l.set k x)[i]? =some y):(i=k∧y=x)∨(i≠k∧l[i]? =some y):=by
 rw [List.getElem?_set] at h
 split at h
 · rename_i e
   split at h
   · cases h;exact .inl ⟨e.symm,rfl⟩
   · cases h
 · rename_i e
   exact .inr ⟨fun e2=>e e2.symm,h⟩
theorem MaAt.addP (h:MaAt w D P) (hk:P[k]? =some none) (hf:MaF w' D ((P.map Option.isSome).set k true) ((P.map (Option.map MPr.X)).set k (some p.X))) (ho:Off D.fx w w') (hp:PrAt w' D.z p) (hnew:∀q,p.own q→w.heap.size≤q):MaAt w' D (P.set k (some p))∧MaN w w' D P (P.set k (some p)):=by
 have e1:(P.set k (some p)).map Option.isSome=(P.map Option.isSome).set k true:=by rw [List.map_set];rfl
 have e2:(P.set k (some p)).map (Option.map MPr.X)=(P.map (Option.map MPr.X)).set k (some p.X):=by rw [List.map_set];rfl
 refine ⟨⟨by rw [e1,e2];exact hf,fun x hx=>?_,fun i j x y hx hy hij q hq hq2=>?_,fun x hx q hq hfx=>?_⟩,⟨ho.mono fun q hq=>.inl hq,?_⟩⟩
 · rcases set_mem hx with e|⟨i,hi,hx⟩
   · cases e;exact hp
   · exact (h.get hx).off ho fun q hq e=>h.sep x (jG hx) q hq e
 · rcases set_get hx with ⟨e3,e4⟩|⟨hi,hx2⟩
   · cases e4
     rcases set_get hy with ⟨e5,e6⟩|⟨hj,hy2⟩
     · exact hij (e3.trans e5.symm)
     · have:=(h.get hy2).lt hq2
       have:=hnew q hq
       omega
   · rcases set_get hy with ⟨e5,e6⟩|⟨hj,hy2⟩
     · cases e6
       have:=(h.get hx2).lt hq
       have:=hnew q hq2
       omega
     · exact h.dj i j x y hx2 hy2 hij q hq hq2
 · rcases set_mem hx with e|⟨i,hi,hx⟩
   · cases e
     have:=h.f.lt hfx
     have:=hnew q hq
     omega
   · exact h.sep x (jG hx) q hq hfx
 · rintro q (e|⟨x,hx,hq⟩)
   · exact .inl (.inl e)
   · rcases set_mem hx with e|⟨i,hi,hx⟩
     · cases e;exact .inr (hnew q hq)
     · exact .inl (.inr ⟨x,jG hx,hq⟩)
theorem MaAt.delP (h:MaAt w D P) (hf:MaF w' D ((P.map Option.isSome).set k false) ((P.map (Option.map MPr.X)).set k none)) (ho:Off D.fx w w'):MaAt w' D (P.set k none)∧MaN w w' D P (P.set k none):=by
 have e1:(P.set k none).map Option.isSome=(P.map Option.isSome).set k false:=by rw [List.map_set];rfl
 have e2:(P.set k none).map (Option.map MPr.X)=(P.map (Option.map MPr.X)).set k none:=by rw [List.map_set];rfl
 refine ⟨⟨by rw [e1,e2];exact hf,fun x hx=>?_,fun i j x y hx hy hij q hq hq2=>?_,fun x hx q hq hfx=>?_⟩,⟨ho.mono fun q hq=>.inl hq,?_⟩⟩
 · rcases set_mem hx with e|⟨i,hi,hx⟩
   · cases e
   · exact (h.get hx).off ho fun q hq e=>h.sep x (jG hx) q hq e
 · rcases set_get hx with ⟨_,e4⟩|⟨hi,hx2⟩
   · cases e4
   · rcases set_get hy with ⟨_,e6⟩|⟨hj,hy2⟩
     · cases e6
     · exact h.dj i j x y hx2 hy2 hij q hq hq2
 · rcases set_mem hx with e|⟨i,hi,hx⟩
   · cases e
   · exact h.sep x (jG hx) q hq hfx
 · rintro q (e|⟨x,hx,hq⟩)
   · exact .inl (.inl e)
   · rcases set_mem hx with e|⟨i,hi,hx⟩
     · cases e
     · exact .inl (.inr ⟨x,jG hx,hq⟩)
theorem MaN.late {w0:World} {P':List (Option MPr)} {S:Nat→Prop} (hb:Below w0.heap.size w0 w) (h:MaN w w' D P P') (hlt:∀q,maO D P q→q<w0.heap.size) {w2:World} (ho:Off S w' w2) (hS:∀q,S q→w0.heap.size≤q):MaN w0 w2 D P P':=by
 have h1:Off (maO D P) w0 w':=(Off.of_below (S:=maO D P) hb).trans h.off
 refine ⟨h1.late ho fun i hi e=>?_,fun q hq=>?_⟩
 · have:=hS i e;omega
 · rcases h.own q hq with e|e
   · exact .inl e
   · exact .inr (Nat.le_trans hb.size e)
end
set_option maxRecDepth 100000
section
variable {w w':World} {D:MaD} {P:List (Option MPr)} {p:MPr} {k:Nat}
set_option maxHeartbeats 4000000 in
theorem do_list (h:MaAt w D P) (pid at_ n prot:Int) (A:Option Addr) (m c:Nat) (HCH:Hid (∀V,Below w.heap.size w V→Calls Tryz.prog 88 #[.pointer (some ⟨D.X,0,none⟩),.agg #[.int .i64 9,.int .i64 pid,.int .i64 at_,.int .i64 n,.int .i64 prot,.slice A m c]] V fun e w'=>e=.returned (.int .i64 0)∧Below V.heap.size V w')):Calls Tryz.prog 70 #[.pointer (some ⟨D.X,0,none⟩),.agg #[.int .i64 9,.int .i64 pid,.int .i64 at_,.int .i64 n,.int .i64 prot,.slice A m c]] w fun e w'=>
 ∃A' c',e=.returned (ansV 0 0 (.slice none 0 0) (.slice A' (pidsF (P.map Option.isSome)).length c'))∧FrE inE w w' (.slice A' (pidsF (P.map Option.isSome)).length c') (pidsF (P.map Option.isSome)):=by
 have HB0:Hid (Below w.heap.size w ((w.alloc (.cells #[.int .i64 9,.int .i64 pid,.int .i64 at_,.int .i64 n,.int .i64 prot,.slice A m c] 47)).alloc (.cells #[.int .i64 0,.int .i64 0,.slice none 0 0,.slice none 0 0] 76))):=hJ ((jB.alloc jN _).alloc (by simp) _)
 have HK:Hid (∀W,Below (w.alloc (.cells #[.int .i64 9,.int .i64 pid,.int .i64 at_,.int .i64 n,.int .i64 prot,.slice A m c] 47)).heap.size (w.alloc (.cells #[.int .i64 9,.int .i64 pid,.int .i64 at_,.int .i64 n,.int .i64 prot,.slice A m c] 47)) W→_):=hJ fun W hb=>op_cells hb
 go_enter Tryz.func70,Tryz.ntmps70
 go_wp2_with fail
 refine (HCH.out _ HB0.out).mono ?_
 rintro e w1 ⟨rfl,hb1⟩
 have hA:=(AnAt.new (w.alloc (.cells #[.int .i64 9,.int .i64 pid,.int .i64 at_,.int .i64 n,.int .i64 prot,.slice A m c] 47))).up hb1
 have hwo:(w.alloc (.cells #[.int .i64 9,.int .i64 pid,.int .i64 at_,.int .i64 n,.int .i64 prot,.slice A m c] 47)).heap.size=w.heap.size+1:=by simp
 have hk:=HK.out w1 ((jB.alloc jN _).trans (hb1.mono (by simp)))
 rw [hwo] at hA
 obtain ⟨a,ha⟩:∃a,w.heap.size+1=a:=⟨_,rfl⟩
 obtain ⟨bx,hbx⟩:∃bx,w.heap.size=bx:=⟨_,rfl⟩
 rw [ha] at hA ⊢
 rw [hbx] at hk ⊢
 have HAN:=hJ hA
 have HOP:=hJ hk
 have HB1:=hJ (HB0.out.trans (hb1.mono HB0.out.size))
 have HM1:=hJ (h.up HB1.out)
 have HA:=hJ (show w.heap.size≤a by omega)
 have HBX:=hJ (show w.heap.size≤bx by omega)
 obtain ⟨k0,k1,k2,k3,k4,k5⟩:=hk
 have lbx:=lt_of_cell k0
 have la:=lt_of_cell hA.c0
 have lX:=HM1.out.f.ltX
 have x9:=HM1.out.f.c9
 have HLT:Hid (∀q,maO D P q→q<w.heap.size):=hJ fun q hq=>h.lt hq
 clear hb1 HCH HB0 HK hA hwo ha hbx
 have HL:=hJ (npList_any HM1.out.f)
 go_wp2_with fail
 refine HL.out.mono ?_
 rintro e w2 ⟨A',c',rfl,hf⟩
 have HF:=hJ hf
 have HAN2:=hJ (HAN.out.up hf.2)
 obtain ⟨a0,a1,a2,a3,af⟩:=HAN2.out
 have f0:=af 0
 have f1:=af 1
 have f2:=af 2
 have f3:=af 3
 clear af
 have la2:=lt_of_cell a0
 clear hf HL
 go_wp2
 have ho:=ans_off w2 a (.int .i64 0) (.int .i64 0) (.slice none 0 0) (.slice A' (pidsF (P.map Option.isSome)).length c')
 have hs1:=HB1.out.size
 refine ans_end rfl HAN2.out ⟨A',c',rfl,(HF.out.1.off ho fun k e e2=>?_).mono hs1,(HB1.out.trans (HF.out.2.mono hs1)).trans (ho.below (fun k e=>by rw [e];exact HA.out) (Nat.le_trans hs1 HF.out.2.size))⟩
 have:=(HF.out.1.lt e).1
 omega
def DoNew (w:World) (D:MaD) (P:List (Option MPr)) (R:PrP) (e:Ending) (w':World):Prop:=
 ∃(k:Nat) (p:MPr),P[k]? =some none∧(∀i,i<k→∃q,P[i]? =some (some q))∧p.pl=R∧MaAt w' D (P.set k (some p))∧MaN w w' D P (P.set k (some p))∧e=.returned (ansV 0 (k:Nat) (.slice none 0 0) (.slice none 0 0))
theorem all_some {P:List (Option MPr)} (h:∀i,i<P.length→(P.map Option.isSome)[i]? =some true):fullB (plP P)=true:=by
 rw [←full_pids]
 have:=(pidU_full (P.map Option.isSome) _ jN).2 (fun i hi=>h i (by simpa using hi))
 unfold pidsF
 rw [this,List.length_map]
theorem some_at {P:List (Option MPr)} {i:Nat} (h:(P.map Option.isSome)[i]? =some true):∃q,P[i]? =some (some q):=by
 rw [List.getElem?_map] at h
 cases hx:P[i]? with
 |none=>rw [hx] at h;cases h
 | some y=>
   cases y with
   |none=>rw [hx] at h;cases h
   |some q=>exact ⟨q,rfl⟩
theorem none_at {P:List (Option MPr)} {i:Nat} (h:(P.map Option.isSome)[i]? =some false):P[i]? =some none:=by
 rw [List.getElem?_map] at h
 cases hx:P[i]? with
 |none=>rw [hx] at h;cases h
 | some y=>
   cases y with
   |none=>rfl
   |some q=>rw [hx] at h;cases h
set_option maxHeartbeats 4000000 in
theorem do_make (h:MaAt w D P) (hnf:¬fullB (plP P)=true) (pid at_ n prot:Int) (A:Option Addr) (m c:Nat) (HCH:Hid (∀V,Below w.heap.size w V→Calls Tryz.prog 88 #[.pointer (some ⟨D.X,0,none⟩),.agg #[.int .i64 1,.int .i64 pid,.int .i64 at_,.int .i64 n,.int .i64 prot,.slice A m c]] V fun e w'=>e=.returned (.int .i64 0)∧Below V.heap.size V w')):Calls Tryz.prog 70 #[.pointer (some ⟨D.X,0,none⟩),.agg #[.int .i64 1,.int .i64 pid,.int .i64 at_,.int .i64 n,.int .i64 prot,.slice A m c]] w (DoNew w D P ⟨[],[]⟩):=by
 have HB0:Hid (Below w.heap.size w ((w.alloc (.cells #[.int .i64 1,.int .i64 pid,.int .i64 at_,.int .i64 n,.int .i64 prot,.slice A m c] 47)).alloc (.cells #[.int .i64 0,.int .i64 0,.slice none 0 0,.slice none 0 0] 76))):=hJ ((jB.alloc jN _).alloc (by simp) _)
 have HK:Hid (∀W,Below (w.alloc (.cells #[.int .i64 1,.int .i64 pid,.int .i64 at_,.int .i64 n,.int .i64 prot,.slice A m c] 47)).heap.size (w.alloc (.cells #[.int .i64 1,.int .i64 pid,.int .i64 at_,.int .i64 n,.int .i64 prot,.slice A m c] 47)) W→_):=hJ fun W hb=>op_cells hb
 go_enter Tryz.func70,Tryz.ntmps70
 go_wp2_with fail
 refine (HCH.out _ HB0.out).mono ?_
 rintro e w1 ⟨rfl,hb1⟩
 have hA:=(AnAt.new (w.alloc (.cells #[.int .i64 1,.int .i64 pid,.int .i64 at_,.int .i64 n,.int .i64 prot,.slice A m c] 47))).up hb1
 have hwo:(w.alloc (.cells #[.int .i64 1,.int .i64 pid,.int .i64 at_,.int .i64 n,.int .i64 prot,.slice A m c] 47)).heap.size=w.heap.size+1:=by simp
 have hk:=HK.out w1 ((jB.alloc jN _).trans (hb1.mono (by simp)))
 rw [hwo] at hA
 obtain ⟨a,ha⟩:∃a,w.heap.size+1=a:=⟨_,rfl⟩
 obtain ⟨bx,hbx⟩:∃bx,w.heap.size=bx:=⟨_,rfl⟩
 rw [ha] at hA ⊢
 rw [hbx] at hk ⊢
 have HAN:=hJ hA
 have HOP:=hJ hk
 have HB1:=hJ (HB0.out.trans (hb1.mono HB0.out.size))
 have HM1:=hJ (h.up HB1.out)
 have HA:=hJ (show w.heap.size≤a by omega)
 have HBX:=hJ (show w.heap.size≤bx by omega)
 obtain ⟨k0,k1,k2,k3,k4,k5⟩:=hk
 have lbx:=lt_of_cell k0
 have la:=lt_of_cell hA.c0
 have lX:=HM1.out.f.ltX
 have x9:=HM1.out.f.c9
 have HLT:Hid (∀q,maO D P q→q<w.heap.size):=hJ fun q hq=>h.lt hq
 clear hb1 HCH HB0 HK hA hwo ha hbx
 have HT:=hJ (npTake_any HM1.out.f)
 go_wp2_with fail
 refine HT.out.mono ?_
 rintro e w2 (⟨k,gB,hkn,hkf,hlow,hgB,rfl,rfl⟩|⟨hall,_,_⟩)
 · have hob:D.bv.ownBlock=some gB:=by unfold MaD.bv;rw [hgB];rfl
   have h2:=HM1.out.f.setB hgB k true
   have nbx:gB<w.heap.size:=HLT.out gB (.inl (.inr (.inr (.inl hob))))
   have HAN2:=hJ (HAN.out.off h2.2 (fun e=>by have:=HA.out;omega))
   have HF2:=hJ h2
   have HKN:=hJ (And.intro (none_at hkf) fun i hi=>some_at (hlow i hi))
   have HGB:=hJ hob
   clear HT hlow hkf h2 hgB hob k0 k1 k2 k3 k4 k5 lbx la x9 nbx lX
   go_upto_region 7 with (fail)
   refine wp_forget (fun V=>MaF V D ((P.map Option.isSome).set k true) (P.map (Option.map MPr.X))∧AnAt V a∧Off D.fx w1 V) ⟨HF2.out.1,HAN2.out,HF2.out.2.mono fun q e=>by rw [e];exact .inr (.inr (.inl HGB.out))⟩ ?_
   clear HF2 HAN2
   rintro V ⟨hf,han,hof⟩
   have HF:=hJ hf
   have HAV:=hJ han
   have HOF:=hJ hof
   obtain ⟨gq,hgq,lgq,hcq,hfq⟩:=hf.qAt
   have q0:=hcq k none (by rw [List.getElem?_map,HKN.out.1];rfl)
   have qf:=hfq k
   have x10:=hf.c10
   have lX:=hf.ltX
   unfold MaD.qv at x10
   rw [hgq] at x10
   have hkI:(k:Int)<(D.n:Int):=by omega
   simp only [Option.map_none] at q0
   have HGQ:=hJ hgq
   have hoq:D.qv.ownBlock=some gq:=by unfold MaD.qv;rw [hgq];rfl
   have hga:gq≠a:=by have:=HLT.out gq (.inl (.inr (.inr (.inr hoq))));have:=HA.out;omega
   obtain ⟨a0,a1,a2,a3,af⟩:=HAV.out
   have f0:=af 0
   have f1:=af 1
   have f2:=af 2
   have f3:=af 3
   clear af
   have la:=lt_of_cell a0
   have HGA:=hJ (And.intro hga hoq)
   clear hf han hof hcq hfq hgq hoq
   have hga2:a≠gq:=fun e=>hga e.symm
   have hf3:=HF.out.setQ HGQ.out k (some V.heap.size)
   simp only [Option.map_some] at hf3
   have hs1:(V.setCell ⟨gq,k,none⟩ (.pointer (some ⟨V.heap.size,0,none⟩))).heap.size=V.heap.size:=by simp
   have hnew:=PrAt.new (V.setCell ⟨gq,k,none⟩ (.pointer (some ⟨V.heap.size,0,none⟩))) D.z (A:=none) (n:=0) (c:=0) (R:=[]) rfl (OwE.nil _ _ _)
   rw [hs1] at hnew
   have hbn:Below (V.setCell ⟨gq,k,none⟩ (.pointer (some ⟨V.heap.size,0,none⟩))).heap.size (V.setCell ⟨gq,k,none⟩ (.pointer (some ⟨V.heap.size,0,none⟩))) ((V.setCell ⟨gq,k,none⟩ (.pointer (some ⟨V.heap.size,0,none⟩))).alloc (.cells #[.slice none 0 0,.slice none 0 0] 157)):=jB.alloc jN _
   have hl1:=HB1.out.size
   have hlV:=HOF.out.size
   have han3:=(HAV.out.off hf3.2 (fun e=>HGA.out.1 e.symm)).up hbn
   have hpX:∀q,(⟨V.heap.size,none,0,[],none,0,[]⟩:MPr).own q→q=V.heap.size:=fun q hq=>by
    rcases hq with e|e|e|⟨x,hx,_⟩
    · exact e
    · cases e
    · cases e
    · cases hx
   have hoQ:Off D.fx w1 ((V.setCell ⟨gq,k,none⟩ (.pointer (some ⟨V.heap.size,0,none⟩))).alloc (.cells #[.slice none 0 0,.slice none 0 0] 157)):=(HOF.out.trans (hf3.2.mono fun q e=>by rw [e];exact .inr (.inr (.inr HGA.out.2)))).step hbn
   have hadd:=HM1.out.addP (p:=⟨V.heap.size,none,0,[],none,0,[]⟩) HKN.out.1 (hf3.1.up hbn) hoQ hnew (fun q hq=>by rw [hpX q hq];exact hlV)
   have hnot:¬maO D (P.set k (some ⟨V.heap.size,none,0,[],none,0,[]⟩)) a:=fun hq=>by
    rcases hq with hq|⟨x,hx,hq⟩
    · have:=HLT.out a (.inl hq)
      have:=HA.out
      omega
    · rcases set_mem hx with e2|⟨i,hi,hx⟩
      · cases e2
        have e3:a=V.heap.size:=hpX _ hq
        have:=lt_of_cell HAV.out.c0
        omega
      · have:=HLT.out a (.inr ⟨x,jG hx,hq⟩)
        have:=HA.out
        omega
   have HFIN:=hJ (And.intro hadd (And.intro han3 hnot))
   clear hnew hbn hf3 hl1 hlV han3 hpX hoQ hadd hnot hs1
   go_upto_region 8 with (fail)
   refine wp_forget (fun U=>∃p:MPr,p.pl=⟨[],[]⟩∧MaAt U D (P.set k (some p))∧MaN w1 U D P (P.set k (some p))∧AnAt U a∧¬maO D (P.set k (some p)) a) ⟨_,rfl,HFIN.out.1.1,HFIN.out.1.2,HFIN.out.2.1,HFIN.out.2.2⟩ ?_
   clear HFIN HAV HF HOF a0 a1 a2 a3 f0 f1 f2 f3 la q0 qf x10 lgq lX
   rintro U ⟨p,hpl,hma,hman,hau,hnot⟩
   have HMA:=hJ hma
   have HMN:=hJ hman
   have HAU:=hJ hau
   have HNT:=hJ hnot
   have HPL:=hJ hpl
   obtain ⟨a0,a1,a2,a3,af⟩:=HAU.out
   have f0:=af 0
   have f1:=af 1
   have f2:=af 2
   have f3:=af 3
   clear af
   have la:=lt_of_cell a0
   clear hma hman hau hnot hpl
   go_wp2
   have hoa:=ans_off U a (.int .i64 0) (.int .i64 (k:Nat)) (.slice none 0 0) (.slice none 0 0)
   refine ans_end rfl HAU.out ⟨k,p,HKN.out.1,HKN.out.2,HPL.out,HMA.out.off hoa (fun q hq e=>HNT.out (e ▸ hq)),HMN.out.late HB1.out HLT.out hoa (fun q e=>by rw [e];exact HA.out),rfl⟩
 · exact absurd (all_some fun i hi=>hall i (by rw [←HM1.out.len];exact hi)) hnf
end
set_option maxRecDepth 100000
structure OpAt (w:World) (b:Nat) (kind pid at_ n prot:Int) (d:Value):Prop where
 c0:w.cell? ⟨b,0,none⟩=some (.int .i64 kind)
 c1:w.cell? ⟨b,1,none⟩=some (.int .i64 pid)
 c2:w.cell? ⟨b,2,none⟩=some (.int .i64 at_)
 c3:w.cell? ⟨b,3,none⟩=some (.int .i64 n)
 c4:w.cell? ⟨b,4,none⟩=some (.int .i64 prot)
 c5:w.cell? ⟨b,5,none⟩=some d
theorem OpAt.off {w w':World} {b:Nat} {kind pid at_ n prot:Int} {d:Value} {S:Nat→Prop} (h:OpAt w b kind pid at_ n prot d) (ho:Off S w w') (hs:¬S b):OpAt w' b kind pid at_ n prot d:=by
 have l:=lt_of_cell h.c0
 exact ⟨(ho.cell (p:=⟨b,0,none⟩) l hs).trans h.c0,(ho.cell (p:=⟨b,1,none⟩) l hs).trans h.c1,(ho.cell (p:=⟨b,2,none⟩) l hs).trans h.c2,(ho.cell (p:=⟨b,3,none⟩) l hs).trans h.c3,(ho.cell (p:=⟨b,4,none⟩) l hs).trans h.c4,(ho.cell (p:=⟨b,5,none⟩) l hs).trans h.c5⟩
theorem OpAt.up {w w':World} {b:Nat} {kind pid at_ n prot:Int} {d:Value} (h:OpAt w b kind pid at_ n prot d) (hb:Below w.heap.size w w'):OpAt w' b kind pid at_ n prot d:=h.off (S:=fun _=>False) (Off.of_below hb) id
theorem OpAt.of {w:World} {b:Nat} {kind pid at_ n prot:Int} {d:Value} (h:w.cell? ⟨b,0,none⟩=some (.int .i64 kind)∧w.cell? ⟨b,1,none⟩=some (.int .i64 pid)∧w.cell? ⟨b,2,none⟩=some (.int .i64 at_)∧w.cell? ⟨b,3,none⟩=some (.int .i64 n)∧w.cell? ⟨b,4,none⟩=some (.int .i64 prot)∧w.cell? ⟨b,5,none⟩=some d):OpAt w b kind pid at_ n prot d:=⟨h.1,h.2.1,h.2.2.1,h.2.2.2.1,h.2.2.2.2.1,h.2.2.2.2.2⟩
section
variable {w w':World} {D:MaD} {P:List (Option MPr)} {p:MPr} {k:Nat}
def DoGone (w:World) (D:MaD) (P:List (Option MPr)) (k:Nat) (e:Ending) (w':World):Prop:=
 MaAt w' D (P.set k none)∧MaN w w' D P (P.set k none)∧e=.returned (ansV 0 0 (.slice none 0 0) (.slice none 0 0))
set_option maxHeartbeats 4000000 in
theorem do_exit (h:MaAt w D P) (hk:P[k]? =some (some p)) (at_ n prot:Int) (A:Option Addr) (m c:Nat) (HCH:Hid (∀V,Below w.heap.size w V→Calls Tryz.prog 88 #[.pointer (some ⟨D.X,0,none⟩),.agg #[.int .i64 8,.int .i64 (k:Nat),.int .i64 at_,.int .i64 n,.int .i64 prot,.slice A m c]] V fun e w'=>e=.returned (.int .i64 0)∧Below V.heap.size V w')):Calls Tryz.prog 70 #[.pointer (some ⟨D.X,0,none⟩),.agg #[.int .i64 8,.int .i64 (k:Nat),.int .i64 at_,.int .i64 n,.int .i64 prot,.slice A m c]] w (DoGone w D P k):=by
 have HB0:Hid (Below w.heap.size w ((w.alloc (.cells #[.int .i64 8,.int .i64 (k:Nat),.int .i64 at_,.int .i64 n,.int .i64 prot,.slice A m c] 47)).alloc (.cells #[.int .i64 0,.int .i64 0,.slice none 0 0,.slice none 0 0] 76))):=hJ ((jB.alloc jN _).alloc (by simp) _)
 have HK:Hid (∀W,Below (w.alloc (.cells #[.int .i64 8,.int .i64 (k:Nat),.int .i64 at_,.int .i64 n,.int .i64 prot,.slice A m c] 47)).heap.size (w.alloc (.cells #[.int .i64 8,.int .i64 (k:Nat),.int .i64 at_,.int .i64 n,.int .i64 prot,.slice A m c] 47)) W→_):=hJ fun W hb=>op_cells hb
 go_enter Tryz.func70,Tryz.ntmps70
 go_wp2_with fail
 refine (HCH.out _ HB0.out).mono ?_
 rintro e w1 ⟨rfl,hb1⟩
 have hA:=(AnAt.new (w.alloc (.cells #[.int .i64 8,.int .i64 (k:Nat),.int .i64 at_,.int .i64 n,.int .i64 prot,.slice A m c] 47))).up hb1
 have hwo:(w.alloc (.cells #[.int .i64 8,.int .i64 (k:Nat),.int .i64 at_,.int .i64 n,.int .i64 prot,.slice A m c] 47)).heap.size=w.heap.size+1:=by simp
 have hk:=HK.out w1 ((jB.alloc jN _).trans (hb1.mono (by simp)))
 rw [hwo] at hA
 obtain ⟨a,ha⟩:∃a,w.heap.size+1=a:=⟨_,rfl⟩
 obtain ⟨bx,hbx⟩:∃bx,w.heap.size=bx:=⟨_,rfl⟩
 rw [ha] at hA ⊢
 rw [hbx] at hk ⊢
 have HAN:=hJ hA
 have HOP:=hJ hk
 have HB1:=hJ (HB0.out.trans (hb1.mono HB0.out.size))
 have HM1:=hJ (h.up HB1.out)
 have HA:=hJ (show w.heap.size≤a by omega)
 have HBX:=hJ (show w.heap.size≤bx by omega)
 obtain ⟨k0,k1,k2,k3,k4,k5⟩:=hk
 have lbx:=lt_of_cell k0
 have la:=lt_of_cell hA.c0
 have lX:=HM1.out.f.ltX
 have x9:=HM1.out.f.c9
 have HLT:Hid (∀q,maO D P q→q<w.heap.size):=hJ fun q hq=>h.lt hq
 clear hb1 HCH HB0 HK hA hwo ha hbx
 have HO1:=hJ (OpAt.of HOP.out)
 have x10:=HM1.out.f.c10
 obtain ⟨gq,hgq,lgq,hcq,_⟩:=HM1.out.f.qAt
 have q0:=hcq k (some p.X) (by rw [List.getElem?_map,hk];rfl)
 unfold MaD.qv at x10
 rw [hgq] at x10
 have hkn:k<D.n:=by rw [←HM1.out.len];exact (jS.1 hk).1
 have hkI:(k:Int)<(D.n:Int):=by omega
 have hk0:(0:Int)≤(k:Int):=by omega
 simp only [Option.map_some] at q0
 clear hcq hgq h HOP
 go_upto_region 11 with (fail)
 refine wp_region_up (by kernel_rfl) (by kernel_rfl) ?_
 repeat (go_big_quiet_step (fail))
 refine wpQuiet_nil ?_
 rintro _ ⟨g1,rfl⟩
 go_upto_region 12 with (fail)
 refine wp_forget (fun U=>Below w1.heap.size w1 U) g1.h ?_
 clear k0 k1 k2 k3 k4 k5 lbx la lX x9 x10 lgq q0
 rintro U hU
 have HBU:=hJ (HB1.out.trans (hU.mono HB1.out.size))
 have HU1:=hJ hU
 have HMU:=hJ (HM1.out.up hU)
 have HAU:=hJ (HAN.out.up hU)
 have HOU:=hJ (HO1.out.up hU)
 have HPU:=hJ (HMU.out.get hk)
 obtain ⟨k0,k1,k2,k3,k4,k5⟩:=HOU.out
 have lbx:=lt_of_cell k0
 clear hU
 have lX:=HMU.out.f.ltX
 have x9:=HMU.out.f.c9
 go_upto_region 42 with (fail)
 refine wp_region_up_tail 6 (by kernel_rfl) (by kernel_rfl) (by kernel_rfl) ?_
 simp only [List.take_succ_cons,List.take_zero,List.drop_succ_cons,List.drop_zero]
 repeat (go_big_quiet_step (fail))
 refine wpQuiet_nil ?_
 rintro _ ⟨g2,rfl⟩
 have hF:=npFree_any (HMU.out.up g2.h).f (k:=k) (by rw [List.getElem?_map,hk];rfl)
 have HFR:=hJ hF
 have HG2:=hJ g2.h
 clear hF
 go_wp2_with fail
 refine HFR.out.mono ?_
 rintro e w3 ⟨rfl,gB,hgB,rfl⟩
 have hob:D.bv.ownBlock=some gB:=by unfold MaD.bv;rw [hgB];rfl
 have h2:=(HMU.out.up HG2.out).f.setB hgB k false
 have lgB:gB<w.heap.size:=HLT.out gB (.inl (.inr (.inr (.inl hob))))
 have HAN2:=hJ ((HAU.out.up HG2.out).off h2.2 (fun e=>by have:=HA.out;omega))
 have HO2:=hJ ((HOU.out.up HG2.out).off h2.2 (fun e=>by have:=HBX.out;omega))
 have HF2:=hJ h2
 have HGB:=hJ hob
 clear HFR h2 hgB hob k0 k1 k2 k3 k4 k5 lbx x9 lgB lX
 go_upto_region 43 with (fail)
 refine wp_forget (fun V=>MaF V D ((P.map Option.isSome).set k false) (P.map (Option.map MPr.X))∧AnAt V a∧OpAt V bx 8 (k:Nat) at_ n prot (.slice A m c)∧Off D.fx U V) ⟨HF2.out.1,HAN2.out,HO2.out,(Off.of_below HG2.out).trans (HF2.out.2.mono fun q e=>by rw [e];exact .inr (.inr (.inl HGB.out)))⟩ ?_
 clear HF2 HAN2 HO2 HG2 HGB
 rintro V ⟨hf,han,hop,hof⟩
 have HF:=hJ hf
 have HAV:=hJ han
 have HOF:=hJ hof
 obtain ⟨gq,hgq,lgq,hcq,hfq⟩:=hf.qAt
 have q0:=hcq k (some p.X) (by rw [List.getElem?_map,hk];rfl)
 have qf:=hfq k
 have x10:=hf.c10
 have lX:=hf.ltX
 unfold MaD.qv at x10
 rw [hgq] at x10
 simp only [Option.map_some] at q0
 have hoq:D.qv.ownBlock=some gq:=by unfold MaD.qv;rw [hgq];rfl
 have hf3:=hf.setQ hgq k none
 simp only [Option.map_none] at hf3
 have HF3:=hJ hf3
 have hga:gq≠a:=by have:=HLT.out gq (.inl (.inr (.inr (.inr hoq))));have:=HA.out;omega
 have HGA:=hJ (And.intro hga hoq)
 obtain ⟨k0,k1,k2,k3,k4,k5⟩:=hop
 have lbx:=lt_of_cell k0
 clear hf han hof hcq hfq hgq hoq hf3 hga
 go_still_tail 7,(by kernel_rfl)
 go_upto_region 44 with (fail)
 refine wp_forget (fun Z=>MaAt Z D (P.set k none)∧MaN U Z D P (P.set k none)∧AnAt Z a) ?_ ?_
 · have hd:=HMU.out.delP (k:=k) HF3.out.1 (HOF.out.trans (HF3.out.2.mono fun q e=>by rw [e];exact .inr (.inr (.inr HGA.out.2))))
   have hdr:∀W:World,Below W.heap.size W W.drew:=fun W=>jB.drew
   exact ⟨hd.1.up (hdr _),hd.2.up (hdr _),(HAV.out.off HF3.out.2 (fun e=>HGA.out.1 e.symm)).up (hdr _)⟩
 clear HF3 HF HAV HOF q0 qf x10 lX lgq k0 k1 k2 k3 k4 k5 lbx
 rintro Z ⟨hma,hman,hau⟩
 have HMZ:=hJ hma
 have HNZ:=hJ hman
 have HAZ:=hJ hau
 obtain ⟨a0,a1,a2,a3,af⟩:=HAZ.out
 have f0:=af 0
 have f1:=af 1
 have f2:=af 2
 have f3:=af 3
 clear af
 have la:=lt_of_cell a0
 clear hma hman hau
 go_wp2
 have hoa:=ans_off Z a (.int .i64 0) (.int .i64 0) (.slice none 0 0) (.slice none 0 0)
 refine ans_end rfl HAZ.out ⟨HMZ.out.off hoa (fun q hq e=>?_),HNZ.out.late HBU.out HLT.out hoa (fun q e=>by rw [e];exact HA.out),rfl⟩
 rw [e] at hq
 have hl:=HA.out
 rcases hq with hq|⟨x,hx,hq⟩
 · have:=HLT.out a (.inl hq);omega
 · rcases set_mem hx with e2|⟨i,hi,hx⟩
   · cases e2
   · have:=HLT.out a (.inr ⟨x,jG hx,hq⟩);omega
end
end Go.Proofs.YtlhfjaagkgengaaGreat
