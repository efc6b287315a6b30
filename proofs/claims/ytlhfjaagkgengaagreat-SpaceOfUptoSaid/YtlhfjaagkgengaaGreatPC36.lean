/- The document's machine: Check. -/
import Derived.Test.YtlhfjaagkgengaaGreatPC35
namespace Go.Proofs.YtlhfjaagkgengaaGreat
set_option maxRecDepth 100000
set_option maxHeartbeats 2000000
open Go.RowKit Go.Maps
set_option linter.unusedVariables false
set_option linter.unusedSimpArgs false
abbrev MaP:=List (Option PrP)
def getP (P:MaP) (pid:Int):Option PrP:=if 0≤pid then (P[pid.toNat]?).join else none
def fullB (P:MaP):Bool:=P.all Option.isSome
def chkF (S:SpD) (P:MaP) (o:OpP):Int:=
 if o.right=false then 1
 else if o.kind=9 then 0
 else if o.kind=1 then (if fullB P=true then 5 else 0)
 else match getP P o.pid with
  |none=>2
  |some p=>if o.kind=5 then checkF S p.R o.at_ o.n 1 else if o.kind=6 then checkF S p.R o.at_ (o.data.length:Nat) 2 else if o.kind=7 then (if fullB P=true then 5 else 0) else if o.kind=8 then 0 else (regF S p.R o.kind o.at_ o.n o.prot).2
def plP (P:List (Option MPr)):MaP:=P.map (Option.map MPr.pl)
theorem plP_some (P:List (Option MPr)):(plP P).map Option.isSome=P.map Option.isSome:=by
 unfold plP
 rw [List.map_map]
 congr 1
 funext x
 cases x<;>rfl
theorem plP_at {P:List (Option MPr)} {k:Nat} {p:MPr} (h:P[k]? =some (some p)):(plP P)[k]? =some (some p.pl):=by
 unfold plP
 rw [List.getElem?_map,h]
 rfl
theorem has_get {P:List (Option MPr)} {pid:Int} (h:hasF (P.map Option.isSome) pid=true):∃(k:Nat) (p:MPr),pid=(k:Nat)∧P[k]? =some (some p)∧getP (plP P) pid=some p.pl:=by
 unfold hasF at h
 rw [Bool.and_eq_true,decide_eq_true_eq] at h
 obtain ⟨h1,h2⟩:=h
 obtain ⟨k,rfl⟩:=Int.eq_ofNat_of_zero_le h1
 rw [Int.toNat_natCast,List.getD_eq_getElem?_getD,List.getElem?_map] at h2
 cases hx:P[k]? with
 |none=>rw [hx] at h2;cases h2
 | some y=>
   cases y with
   |none=>rw [hx] at h2;cases h2
   | some p=>
     refine ⟨k,p,rfl,hx,?_⟩
     unfold getP
     rw [if_pos h1,Int.toNat_natCast,plP_at hx]
     rfl
theorem has_none {P:List (Option MPr)} {pid:Int} (h:hasF (P.map Option.isSome) pid=false):getP (plP P) pid=none:=by
 unfold getP
 split
 · rename_i h1
   unfold hasF at h
   rw [decide_eq_true h1,Bool.true_and,List.getD_eq_getElem?_getD,List.getElem?_map] at h
   unfold plP
   rw [List.getElem?_map]
   cases hx:P[pid.toNat]? with
   |none=>rfl
   | some y=>
     cases y with
     |none=>rfl
     |some p=>rw [hx] at h;cases h
 · rfl
theorem pidU_full (B:List Bool):∀j,j≤B.length→((pidU B j).length=j ↔ ∀i,i<j→B[i]? =some true)
 |0,_=>⟨fun _ i hi=>by omega,fun _=>rfl⟩
 | j + 1,hj=>by
   have ih:=pidU_full B j (by omega)
   have hl:=pidU_len B j
   rw [pidU_snoc,List.length_append,List.getD_eq_getElem?_getD,jE (by omega)]
   constructor
   · intro h i hi
     have hb:B[j]=true:=by
      cases hc:B[j] with
      |true=>rfl
      | false=>
        rw [hc] at h
        simp at h
        omega
     rw [hb] at h
     simp at h
     rcases Nat.lt_or_ge i j with c|c
     · exact ih.1 h i c
     · obtain rfl:i=j:=by omega
       rw [jE (by omega),hb]
   · intro h
     have h1:=h j (by omega)
     rw [jE (by omega)] at h1
     injection h1 with h1
     rw [h1,ih.2 fun i hi=>h i (by omega)]
     rfl
theorem full_pids (P:List (Option MPr)):((pidsF (P.map Option.isSome)).length=P.length) ↔ fullB (plP P)=true:=by
 have h:=pidU_full (P.map Option.isSome) _ jN
 unfold pidsF
 rw [List.length_map] at h ⊢
 rw [h]
 unfold fullB
 rw [List.all_eq_true]
 constructor
 · intro g x hx
   obtain ⟨i,hi⟩:=List.mem_iff_getElem?.1 hx
   have hil:=(jS.1 hi).1
   unfold plP at hi hil
   rw [List.length_map] at hil
   have:=g i hil
   rw [List.getElem?_map] at hi this
   cases hp:P[i]? with
   |none=>rw [hp] at this;cases this
   | some y=>
     rw [hp] at hi this
     cases hi
     cases y with
     |none=>simp at this
     |some p=>rfl
 · intro g i hi
   rw [List.getElem?_map,jE hi]
   have:=g (Option.map MPr.pl P[i]) (by unfold plP;exact List.mem_map.2 ⟨_,List.getElem_mem hi,rfl⟩)
   cases hp:P[i] with
   |none=>rw [hp] at this;cases this
   |some p=>rfl
theorem op_cells {w w1:World} {k p a n r:Int} {d:Value} {T:TypeId} (h:Below (w.alloc (.cells #[.int .i64 k,.int .i64 p,.int .i64 a,.int .i64 n,.int .i64 r,d] T)).heap.size (w.alloc (.cells #[.int .i64 k,.int .i64 p,.int .i64 a,.int .i64 n,.int .i64 r,d] T)) w1):
 w1.cell? ⟨w.heap.size,0,none⟩=some (.int .i64 k)∧w1.cell? ⟨w.heap.size,1,none⟩=some (.int .i64 p)∧w1.cell? ⟨w.heap.size,2,none⟩=some (.int .i64 a)∧w1.cell? ⟨w.heap.size,3,none⟩=some (.int .i64 n)∧w1.cell? ⟨w.heap.size,4,none⟩=some (.int .i64 r)∧w1.cell? ⟨w.heap.size,5,none⟩=some d:=by
 have hn:=heap_alloc_new w (.cells #[.int .i64 k,.int .i64 p,.int .i64 a,.int .i64 n,.int .i64 r,d] T)
 have hc:∀i v,(#[.int .i64 k,.int .i64 p,.int .i64 a,.int .i64 n,.int .i64 r,d]:Array Value)[i]? =some v→w1.cell? ⟨w.heap.size,i,none⟩=some v:=fun i v hv=>by
  refine ((Off.of_below (S:=fun _=>False) h).cell (p:=⟨w.heap.size,i,none⟩) (by simp) id).trans ?_
  rw [cell_of_row _ _ _ _ _ _ hn];exact hv
 exact ⟨hc 0 _ rfl,hc 1 _ rfl,hc 2 _ rfl,hc 3 _ rfl,hc 4 _ rfl,hc 5 _ rfl⟩
section
variable {w w':World} {D:MaD} {P:List (Option MPr)}
theorem chk_bad (h:MaAt w D P) (kind:Int) (pid at_ n prot:Int) (A:Option Addr) (m c:Nat) (hr:right9 kind (pid !=0) (at_ !=0) (n !=0) (prot !=0) (decide (0<m))=false):Calls Tryz.prog 88 #[.pointer (some ⟨D.X,0,none⟩),.agg #[.int .i64 kind,.int .i64 pid,.int .i64 at_,.int .i64 n,.int .i64 prot,.slice A m c]] w fun e w'=>e=.returned (.int .i64 1)∧Below w.heap.size w w':=by
 have HR:=hJ (fun V:World=>mRight_any V kind pid at_ n prot A m c)
 rw [hr] at HR
 have HB0:=hJ (show Below w.heap.size w (w.alloc (.cells #[.int .i64 kind,.int .i64 pid,.int .i64 at_,.int .i64 n,.int .i64 prot,.slice A m c] 47)) from jB.alloc jN _)
 have HC:Hid (∀W,Below (w.alloc (.cells #[.int .i64 kind,.int .i64 pid,.int .i64 at_,.int .i64 n,.int .i64 prot,.slice A m c] 47)).heap.size (w.alloc (.cells #[.int .i64 kind,.int .i64 pid,.int .i64 at_,.int .i64 n,.int .i64 prot,.slice A m c] 47)) W→_):=hJ fun W hb=>op_cells hb
 have hlb:w.heap.size<(w.alloc (.cells #[.int .i64 kind,.int .i64 pid,.int .i64 at_,.int .i64 n,.int .i64 prot,.slice A m c] 47)).heap.size:=by simp
 clear hr
 go_enter Tryz.func88,Tryz.ntmps88
 go_wp2_with fail
 generalize w.alloc (.cells #[.int .i64 kind,.int .i64 pid,.int .i64 at_,.int .i64 n,.int .i64 prot,.slice A m c] 47)=wa at *
 obtain ⟨bx,hbx⟩:∃bx,w.heap.size=bx:=⟨_,rfl⟩
 rw [hbx] at HC hlb ⊢
 refine (HR.out wa).mono ?_
 rintro e w1 ⟨rfl,hb1⟩
 obtain ⟨k0,k1,k2,k3,k4,k5⟩:=HC.out _ hb1
 have HB1:=hJ hb1
 have HB:=hJ (HB0.out.trans (hb1.mono HB0.out.size))
 have lb1:=lt_of_cell k0
 clear hb1 HR hbx
 go_wp2
 go_ret
 exact ⟨rfl,HB.out⟩
theorem chk_list (h:MaAt w D P) (pid at_ n prot:Int) (A:Option Addr) (m c:Nat) (hr:right9 9 (pid !=0) (at_ !=0) (n !=0) (prot !=0) (decide (0<m))=true):Calls Tryz.prog 88 #[.pointer (some ⟨D.X,0,none⟩),.agg #[.int .i64 9,.int .i64 pid,.int .i64 at_,.int .i64 n,.int .i64 prot,.slice A m c]] w fun e w'=>e=.returned (.int .i64 0)∧Below w.heap.size w w':=by
 have HR:=hJ (fun V:World=>mRight_any V 9 pid at_ n prot A m c)
 rw [hr] at HR
 have HB0:=hJ (show Below w.heap.size w (w.alloc (.cells #[.int .i64 9,.int .i64 pid,.int .i64 at_,.int .i64 n,.int .i64 prot,.slice A m c] 47)) from jB.alloc jN _)
 have HC:Hid (∀W,Below (w.alloc (.cells #[.int .i64 9,.int .i64 pid,.int .i64 at_,.int .i64 n,.int .i64 prot,.slice A m c] 47)).heap.size (w.alloc (.cells #[.int .i64 9,.int .i64 pid,.int .i64 at_,.int .i64 n,.int .i64 prot,.slice A m c] 47)) W→_):=hJ fun W hb=>op_cells hb
 have hlb:w.heap.size<(w.alloc (.cells #[.int .i64 9,.int .i64 pid,.int .i64 at_,.int .i64 n,.int .i64 prot,.slice A m c] 47)).heap.size:=by simp
 clear hr
 go_enter Tryz.func88,Tryz.ntmps88
 go_wp2_with fail
 generalize w.alloc (.cells #[.int .i64 9,.int .i64 pid,.int .i64 at_,.int .i64 n,.int .i64 prot,.slice A m c] 47)=wa at *
 obtain ⟨bx,hbx⟩:∃bx,w.heap.size=bx:=⟨_,rfl⟩
 rw [hbx] at HC hlb ⊢
 refine (HR.out wa).mono ?_
 rintro e w1 ⟨rfl,hb1⟩
 obtain ⟨k0,k1,k2,k3,k4,k5⟩:=HC.out _ hb1
 have HB1:=hJ hb1
 have HB:=hJ (HB0.out.trans (hb1.mono HB0.out.size))
 have lb1:=lt_of_cell k0
 clear hb1 HR hbx
 go_wp2
 go_ret
 exact ⟨rfl,HB.out⟩
theorem chk_make (h:MaAt w D P) (pid at_ n prot:Int) (A:Option Addr) (m c:Nat) (hr:right9 1 (pid !=0) (at_ !=0) (n !=0) (prot !=0) (decide (0<m))=true):Calls Tryz.prog 88 #[.pointer (some ⟨D.X,0,none⟩),.agg #[.int .i64 1,.int .i64 pid,.int .i64 at_,.int .i64 n,.int .i64 prot,.slice A m c]] w fun e w'=>e=.returned (.int .i64 (if fullB (plP P)=true then 5 else 0))∧Below w.heap.size w w':=by
 have HFX:Hid ((fullB (plP P)=true→(if fullB (plP P)=true then (5:Int) else 0)=5)∧(¬fullB (plP P)=true→(if fullB (plP P)=true then (5:Int) else 0)=0)):=hJ ⟨fun h=>if_pos h,fun h=>if_neg h⟩
 obtain ⟨z,hz⟩:∃z:Int,(if fullB (plP P)=true then (5:Int) else 0)=z:=⟨_,rfl⟩
 rw [hz] at HFX ⊢
 clear hz
 have HR:=hJ (fun V:World=>mRight_any V 1 pid at_ n prot A m c)
 rw [hr] at HR
 have HB0:=hJ (show Below w.heap.size w (w.alloc (.cells #[.int .i64 1,.int .i64 pid,.int .i64 at_,.int .i64 n,.int .i64 prot,.slice A m c] 47)) from jB.alloc jN _)
 have HC:Hid (∀W,Below (w.alloc (.cells #[.int .i64 1,.int .i64 pid,.int .i64 at_,.int .i64 n,.int .i64 prot,.slice A m c] 47)).heap.size (w.alloc (.cells #[.int .i64 1,.int .i64 pid,.int .i64 at_,.int .i64 n,.int .i64 prot,.slice A m c] 47)) W→_):=hJ fun W hb=>op_cells hb
 have hlb:w.heap.size<(w.alloc (.cells #[.int .i64 1,.int .i64 pid,.int .i64 at_,.int .i64 n,.int .i64 prot,.slice A m c] 47)).heap.size:=by simp
 clear hr
 go_enter Tryz.func88,Tryz.ntmps88
 go_wp2_with fail
 generalize w.alloc (.cells #[.int .i64 1,.int .i64 pid,.int .i64 at_,.int .i64 n,.int .i64 prot,.slice A m c] 47)=wa at *
 obtain ⟨bx,hbx⟩:∃bx,w.heap.size=bx:=⟨_,rfl⟩
 rw [hbx] at HC hlb ⊢
 refine (HR.out wa).mono ?_
 rintro e w1 ⟨rfl,hb1⟩
 obtain ⟨k0,k1,k2,k3,k4,k5⟩:=HC.out _ hb1
 have HB1:=hJ hb1
 have HB:=hJ (HB0.out.trans (hb1.mono HB0.out.size))
 have lb1:=lt_of_cell k0
 clear hb1 HR hbx
 have HM:=hJ (h.up HB.out)
 have lX:=HM.out.f.ltX
 have x9:=HM.out.f.c9
 have c6:=HM.out.f.cc 6 (by omega)
 rw [HM.out.f.en] at c6
 have HL:Hid (∀V,Below w1.heap.size w1 V→Calls Tryz.prog 52 #[.pointer (some ⟨D.S,0,none⟩)] V fun e w'=>∃A' c',e=.returned (.slice A' (pidsF (P.map Option.isSome)).length c')∧Below V.heap.size V w'):=hJ fun V hV=>(npList_any (HM.out.f.up hV)).mono fun e w' ⟨A',c',he,hf⟩=>⟨A',c',he,hf.2⟩
 have hful:=full_pids P
 rw [HM.out.len] at hful
 obtain ⟨N,hN⟩:∃N,(pidsF (P.map Option.isSome)).length=N:=⟨_,rfl⟩
 rw [hN] at HL hful
 have hnb:D.n≤64:=by have:=HM.out.f.good.2.1;have:=HM.out.f.en;omega
 have HBE:Hid (∀V,Below w1.heap.size w1 V→Below w.heap.size w V):=hJ fun V hV=>HB.out.trans (hV.mono HB.out.size)
 by_cases hfu:fullB (plP P)=true
 · have hd:(N==D.n)=true:=beq_iff_eq.2 (hful.2 hfu)
   have hd2:((N:Int)==(D.n:Int))=true:=beq_iff_eq.2 (by rw [hful.2 hfu])
   obtain rfl:z=5:=HFX.out.1 hfu
   clear hful hN h HFX hfu
   go_upto_region 7 with (fail)
   go_region_held3 (fun V=>V.cell? ⟨D.X,9,none⟩=some (.pointer (some ⟨D.S,0,none⟩))∧V.cell? ⟨D.X,6,none⟩=some (.int .i64 (D.n:Nat))) (first|exact ⟨x9,c6⟩|exact KS.out|go_keep)
    ((go_at_call 52;(with_reducible refine (HL.out _ jB.drew).mono ?_);rintro e w3 ⟨A3,c3,rfl,hb3⟩;have KS:Hid (w3.cell? ⟨D.X,9,none⟩=some (.pointer (some ⟨D.S,0,none⟩))∧w3.cell? ⟨D.X,6,none⟩=some (.int .i64 (D.n:Nat))):=hJ ⟨(hb3.cell (p:=⟨D.X,9,none⟩) lX).trans x9,(hb3.cell (p:=⟨D.X,6,none⟩) lX).trans c6⟩;have HB3:=hJ hb3;clear hb3))
   go_wp2
   go_ret
   exact ⟨rfl,HBE.out _ ((Below.refl w1.heap.size w1).drew.trans HB3.out)⟩
 · have hne:¬N=D.n:=fun e=>hfu (hful.1 e)
   have hd:(N==D.n)=false:=beq_eq_false_iff_ne.2 hne
   have hd2:((N:Int)==(D.n:Int))=false:=beq_eq_false_iff_ne.2 (by omega)
   obtain rfl:z=0:=HFX.out.2 hfu
   clear hful hN h hne HFX hfu
   go_upto_region 7 with (fail)
   go_region_held3 (fun V=>V.cell? ⟨D.X,9,none⟩=some (.pointer (some ⟨D.S,0,none⟩))∧V.cell? ⟨D.X,6,none⟩=some (.int .i64 (D.n:Nat))) (first|exact ⟨x9,c6⟩|exact KS.out|go_keep)
    ((go_at_call 52;(with_reducible refine (HL.out _ jB.drew).mono ?_);rintro e w3 ⟨A3,c3,rfl,hb3⟩;have KS:Hid (w3.cell? ⟨D.X,9,none⟩=some (.pointer (some ⟨D.S,0,none⟩))∧w3.cell? ⟨D.X,6,none⟩=some (.int .i64 (D.n:Nat))):=hJ ⟨(hb3.cell (p:=⟨D.X,9,none⟩) lX).trans x9,(hb3.cell (p:=⟨D.X,6,none⟩) lX).trans c6⟩;have HB3:=hJ hb3;clear hb3))
   go_wp2
   go_ret
   exact ⟨rfl,HBE.out _ ((Below.refl w1.heap.size w1).drew.trans HB3.out)⟩
end
end Go.Proofs.YtlhfjaagkgengaaGreat
