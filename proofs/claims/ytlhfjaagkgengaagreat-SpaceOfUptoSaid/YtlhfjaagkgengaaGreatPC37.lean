/- The document's machine: Check of what a process does. -/
import Derived.Test.YtlhfjaagkgengaaGreatPC36
namespace Go.Proofs.YtlhfjaagkgengaaGreat
set_option maxRecDepth 100000
set_option maxHeartbeats 2000000
open Go.RowKit Go.Maps
set_option linter.unusedVariables false
set_option linter.unusedSimpArgs false
section
variable {w w':World} {D:MaD} {P:List (Option MPr)} {p:MPr} {k:Nat}
theorem MaAt.has (h:MaAt w D P) (hk:P[k]? =some (some p)):hasF (P.map Option.isSome) (k:Nat)=true:=by
 unfold hasF
 rw [decide_eq_true (by omega),Int.toNat_natCast,List.getD_eq_getElem?_getD,List.getElem?_map,hk]
 rfl
theorem chk_none2 (h:MaAt w D P) (pid at_ n prot:Int) (A:Option Addr) (m c:Nat) (hr:right9 2 (pid !=0) (at_ !=0) (n !=0) (prot !=0) (decide (0<m))=true) (hh:hasF (P.map Option.isSome) pid=false):Calls Tryz.prog 88 #[.pointer (some ⟨D.X,0,none⟩),.agg #[.int .i64 2,.int .i64 pid,.int .i64 at_,.int .i64 n,.int .i64 prot,.slice A m c]] w fun e w'=>e=.returned (.int .i64 2)∧Below w.heap.size w w':=by
 have HR:=hJ (fun V:World=>mRight_any V 2 pid at_ n prot A m c)
 rw [hr] at HR
 have HB0:=hJ (show Below w.heap.size w (w.alloc (.cells #[.int .i64 2,.int .i64 pid,.int .i64 at_,.int .i64 n,.int .i64 prot,.slice A m c] 47)) from jB.alloc jN _)
 have HC:Hid (∀W,Below (w.alloc (.cells #[.int .i64 2,.int .i64 pid,.int .i64 at_,.int .i64 n,.int .i64 prot,.slice A m c] 47)).heap.size (w.alloc (.cells #[.int .i64 2,.int .i64 pid,.int .i64 at_,.int .i64 n,.int .i64 prot,.slice A m c] 47)) W→_):=hJ fun W hb=>op_cells hb
 have hlb:w.heap.size<(w.alloc (.cells #[.int .i64 2,.int .i64 pid,.int .i64 at_,.int .i64 n,.int .i64 prot,.slice A m c] 47)).heap.size:=by simp
 clear hr
 go_enter Tryz.func88,Tryz.ntmps88
 go_wp2_with fail
 generalize w.alloc (.cells #[.int .i64 2,.int .i64 pid,.int .i64 at_,.int .i64 n,.int .i64 prot,.slice A m c] 47)=wa at *
 obtain ⟨bx,hbx⟩:∃bx,w.heap.size=bx:=⟨_,rfl⟩
 rw [hbx] at HC hlb ⊢
 refine (HR.out wa).mono ?_
 rintro e w1 ⟨rfl,hb1⟩
 obtain ⟨k0,k1,k2,k3,k4,k5⟩:=HC.out _ hb1
 have HB1:=hJ hb1
 have HB:=hJ (HB0.out.trans (hb1.mono HB0.out.size))
 have lb1:=lt_of_cell k0
 clear hb1 HR hbx
 have HM:=hJ (h.up HB.out)
 have lX:=HM.out.f.ltX
 have x9:=HM.out.f.c9
 have HH:Hid (∀V,Below w1.heap.size w1 V→Calls Tryz.prog 136 #[.pointer (some ⟨D.S,0,none⟩),.int .i64 pid] V fun e w'=>e=.returned (.bool false)∧Below V.heap.size V w'):=hJ fun V hV=>by
  have:=npHas_any (HM.out.f.up hV) pid
  rw [hh] at this
  exact this.mono fun e w' ⟨h1,h2⟩=>⟨h1,h2 ▸ Below.refl _ _⟩
 clear h hh
 go_upto_region 10 with (fail)
 refine wp_region_up (by kernel_rfl) (by kernel_rfl) ?_
 repeat (go_big_quiet_step (first|(go_at_call 136;exact Calls.up_of (HH.out _ (Up.h _)))))
 refine wpQuiet_nil ?_
 rintro _ ⟨g,rfl⟩
 go_wp2
 go_ret
 exact ⟨rfl,HB.out.trans (g.h.mono HB.out.size)⟩
theorem chk_none3 (h:MaAt w D P) (pid at_ n prot:Int) (A:Option Addr) (m c:Nat) (hr:right9 3 (pid !=0) (at_ !=0) (n !=0) (prot !=0) (decide (0<m))=true) (hh:hasF (P.map Option.isSome) pid=false):Calls Tryz.prog 88 #[.pointer (some ⟨D.X,0,none⟩),.agg #[.int .i64 3,.int .i64 pid,.int .i64 at_,.int .i64 n,.int .i64 prot,.slice A m c]] w fun e w'=>e=.returned (.int .i64 2)∧Below w.heap.size w w':=by
 have HR:=hJ (fun V:World=>mRight_any V 3 pid at_ n prot A m c)
 rw [hr] at HR
 have HB0:=hJ (show Below w.heap.size w (w.alloc (.cells #[.int .i64 3,.int .i64 pid,.int .i64 at_,.int .i64 n,.int .i64 prot,.slice A m c] 47)) from jB.alloc jN _)
 have HC:Hid (∀W,Below (w.alloc (.cells #[.int .i64 3,.int .i64 pid,.int .i64 at_,.int .i64 n,.int .i64 prot,.slice A m c] 47)).heap.size (w.alloc (.cells #[.int .i64 3,.int .i64 pid,.int .i64 at_,.int .i64 n,.int .i64 prot,.slice A m c] 47)) W→_):=hJ fun W hb=>op_cells hb
 have hlb:w.heap.size<(w.alloc (.cells #[.int .i64 3,.int .i64 pid,.int .i64 at_,.int .i64 n,.int .i64 prot,.slice A m c] 47)).heap.size:=by simp
 clear hr
 go_enter Tryz.func88,Tryz.ntmps88
 go_wp2_with fail
 generalize w.alloc (.cells #[.int .i64 3,.int .i64 pid,.int .i64 at_,.int .i64 n,.int .i64 prot,.slice A m c] 47)=wa at *
 obtain ⟨bx,hbx⟩:∃bx,w.heap.size=bx:=⟨_,rfl⟩
 rw [hbx] at HC hlb ⊢
 refine (HR.out wa).mono ?_
 rintro e w1 ⟨rfl,hb1⟩
 obtain ⟨k0,k1,k2,k3,k4,k5⟩:=HC.out _ hb1
 have HB1:=hJ hb1
 have HB:=hJ (HB0.out.trans (hb1.mono HB0.out.size))
 have lb1:=lt_of_cell k0
 clear hb1 HR hbx
 have HM:=hJ (h.up HB.out)
 have lX:=HM.out.f.ltX
 have x9:=HM.out.f.c9
 have HH:Hid (∀V,Below w1.heap.size w1 V→Calls Tryz.prog 136 #[.pointer (some ⟨D.S,0,none⟩),.int .i64 pid] V fun e w'=>e=.returned (.bool false)∧Below V.heap.size V w'):=hJ fun V hV=>by
  have:=npHas_any (HM.out.f.up hV) pid
  rw [hh] at this
  exact this.mono fun e w' ⟨h1,h2⟩=>⟨h1,h2 ▸ Below.refl _ _⟩
 clear h hh
 go_upto_region 10 with (fail)
 refine wp_region_up (by kernel_rfl) (by kernel_rfl) ?_
 repeat (go_big_quiet_step (first|(go_at_call 136;exact Calls.up_of (HH.out _ (Up.h _)))))
 refine wpQuiet_nil ?_
 rintro _ ⟨g,rfl⟩
 go_wp2
 go_ret
 exact ⟨rfl,HB.out.trans (g.h.mono HB.out.size)⟩
theorem chk_none4 (h:MaAt w D P) (pid at_ n prot:Int) (A:Option Addr) (m c:Nat) (hr:right9 4 (pid !=0) (at_ !=0) (n !=0) (prot !=0) (decide (0<m))=true) (hh:hasF (P.map Option.isSome) pid=false):Calls Tryz.prog 88 #[.pointer (some ⟨D.X,0,none⟩),.agg #[.int .i64 4,.int .i64 pid,.int .i64 at_,.int .i64 n,.int .i64 prot,.slice A m c]] w fun e w'=>e=.returned (.int .i64 2)∧Below w.heap.size w w':=by
 have HR:=hJ (fun V:World=>mRight_any V 4 pid at_ n prot A m c)
 rw [hr] at HR
 have HB0:=hJ (show Below w.heap.size w (w.alloc (.cells #[.int .i64 4,.int .i64 pid,.int .i64 at_,.int .i64 n,.int .i64 prot,.slice A m c] 47)) from jB.alloc jN _)
 have HC:Hid (∀W,Below (w.alloc (.cells #[.int .i64 4,.int .i64 pid,.int .i64 at_,.int .i64 n,.int .i64 prot,.slice A m c] 47)).heap.size (w.alloc (.cells #[.int .i64 4,.int .i64 pid,.int .i64 at_,.int .i64 n,.int .i64 prot,.slice A m c] 47)) W→_):=hJ fun W hb=>op_cells hb
 have hlb:w.heap.size<(w.alloc (.cells #[.int .i64 4,.int .i64 pid,.int .i64 at_,.int .i64 n,.int .i64 prot,.slice A m c] 47)).heap.size:=by simp
 clear hr
 go_enter Tryz.func88,Tryz.ntmps88
 go_wp2_with fail
 generalize w.alloc (.cells #[.int .i64 4,.int .i64 pid,.int .i64 at_,.int .i64 n,.int .i64 prot,.slice A m c] 47)=wa at *
 obtain ⟨bx,hbx⟩:∃bx,w.heap.size=bx:=⟨_,rfl⟩
 rw [hbx] at HC hlb ⊢
 refine (HR.out wa).mono ?_
 rintro e w1 ⟨rfl,hb1⟩
 obtain ⟨k0,k1,k2,k3,k4,k5⟩:=HC.out _ hb1
 have HB1:=hJ hb1
 have HB:=hJ (HB0.out.trans (hb1.mono HB0.out.size))
 have lb1:=lt_of_cell k0
 clear hb1 HR hbx
 have HM:=hJ (h.up HB.out)
 have lX:=HM.out.f.ltX
 have x9:=HM.out.f.c9
 have HH:Hid (∀V,Below w1.heap.size w1 V→Calls Tryz.prog 136 #[.pointer (some ⟨D.S,0,none⟩),.int .i64 pid] V fun e w'=>e=.returned (.bool false)∧Below V.heap.size V w'):=hJ fun V hV=>by
  have:=npHas_any (HM.out.f.up hV) pid
  rw [hh] at this
  exact this.mono fun e w' ⟨h1,h2⟩=>⟨h1,h2 ▸ Below.refl _ _⟩
 clear h hh
 go_upto_region 10 with (fail)
 refine wp_region_up (by kernel_rfl) (by kernel_rfl) ?_
 repeat (go_big_quiet_step (first|(go_at_call 136;exact Calls.up_of (HH.out _ (Up.h _)))))
 refine wpQuiet_nil ?_
 rintro _ ⟨g,rfl⟩
 go_wp2
 go_ret
 exact ⟨rfl,HB.out.trans (g.h.mono HB.out.size)⟩
theorem chk_none5 (h:MaAt w D P) (pid at_ n prot:Int) (A:Option Addr) (m c:Nat) (hr:right9 5 (pid !=0) (at_ !=0) (n !=0) (prot !=0) (decide (0<m))=true) (hh:hasF (P.map Option.isSome) pid=false):Calls Tryz.prog 88 #[.pointer (some ⟨D.X,0,none⟩),.agg #[.int .i64 5,.int .i64 pid,.int .i64 at_,.int .i64 n,.int .i64 prot,.slice A m c]] w fun e w'=>e=.returned (.int .i64 2)∧Below w.heap.size w w':=by
 have HR:=hJ (fun V:World=>mRight_any V 5 pid at_ n prot A m c)
 rw [hr] at HR
 have HB0:=hJ (show Below w.heap.size w (w.alloc (.cells #[.int .i64 5,.int .i64 pid,.int .i64 at_,.int .i64 n,.int .i64 prot,.slice A m c] 47)) from jB.alloc jN _)
 have HC:Hid (∀W,Below (w.alloc (.cells #[.int .i64 5,.int .i64 pid,.int .i64 at_,.int .i64 n,.int .i64 prot,.slice A m c] 47)).heap.size (w.alloc (.cells #[.int .i64 5,.int .i64 pid,.int .i64 at_,.int .i64 n,.int .i64 prot,.slice A m c] 47)) W→_):=hJ fun W hb=>op_cells hb
 have hlb:w.heap.size<(w.alloc (.cells #[.int .i64 5,.int .i64 pid,.int .i64 at_,.int .i64 n,.int .i64 prot,.slice A m c] 47)).heap.size:=by simp
 clear hr
 go_enter Tryz.func88,Tryz.ntmps88
 go_wp2_with fail
 generalize w.alloc (.cells #[.int .i64 5,.int .i64 pid,.int .i64 at_,.int .i64 n,.int .i64 prot,.slice A m c] 47)=wa at *
 obtain ⟨bx,hbx⟩:∃bx,w.heap.size=bx:=⟨_,rfl⟩
 rw [hbx] at HC hlb ⊢
 refine (HR.out wa).mono ?_
 rintro e w1 ⟨rfl,hb1⟩
 obtain ⟨k0,k1,k2,k3,k4,k5⟩:=HC.out _ hb1
 have HB1:=hJ hb1
 have HB:=hJ (HB0.out.trans (hb1.mono HB0.out.size))
 have lb1:=lt_of_cell k0
 clear hb1 HR hbx
 have HM:=hJ (h.up HB.out)
 have lX:=HM.out.f.ltX
 have x9:=HM.out.f.c9
 have HH:Hid (∀V,Below w1.heap.size w1 V→Calls Tryz.prog 136 #[.pointer (some ⟨D.S,0,none⟩),.int .i64 pid] V fun e w'=>e=.returned (.bool false)∧Below V.heap.size V w'):=hJ fun V hV=>by
  have:=npHas_any (HM.out.f.up hV) pid
  rw [hh] at this
  exact this.mono fun e w' ⟨h1,h2⟩=>⟨h1,h2 ▸ Below.refl _ _⟩
 clear h hh
 go_upto_region 10 with (fail)
 refine wp_region_up (by kernel_rfl) (by kernel_rfl) ?_
 repeat (go_big_quiet_step (first|(go_at_call 136;exact Calls.up_of (HH.out _ (Up.h _)))))
 refine wpQuiet_nil ?_
 rintro _ ⟨g,rfl⟩
 go_wp2
 go_ret
 exact ⟨rfl,HB.out.trans (g.h.mono HB.out.size)⟩
theorem chk_none6 (h:MaAt w D P) (pid at_ n prot:Int) (A:Option Addr) (m c:Nat) (hr:right9 6 (pid !=0) (at_ !=0) (n !=0) (prot !=0) (decide (0<m))=true) (hh:hasF (P.map Option.isSome) pid=false):Calls Tryz.prog 88 #[.pointer (some ⟨D.X,0,none⟩),.agg #[.int .i64 6,.int .i64 pid,.int .i64 at_,.int .i64 n,.int .i64 prot,.slice A m c]] w fun e w'=>e=.returned (.int .i64 2)∧Below w.heap.size w w':=by
 have HR:=hJ (fun V:World=>mRight_any V 6 pid at_ n prot A m c)
 rw [hr] at HR
 have HB0:=hJ (show Below w.heap.size w (w.alloc (.cells #[.int .i64 6,.int .i64 pid,.int .i64 at_,.int .i64 n,.int .i64 prot,.slice A m c] 47)) from jB.alloc jN _)
 have HC:Hid (∀W,Below (w.alloc (.cells #[.int .i64 6,.int .i64 pid,.int .i64 at_,.int .i64 n,.int .i64 prot,.slice A m c] 47)).heap.size (w.alloc (.cells #[.int .i64 6,.int .i64 pid,.int .i64 at_,.int .i64 n,.int .i64 prot,.slice A m c] 47)) W→_):=hJ fun W hb=>op_cells hb
 have hlb:w.heap.size<(w.alloc (.cells #[.int .i64 6,.int .i64 pid,.int .i64 at_,.int .i64 n,.int .i64 prot,.slice A m c] 47)).heap.size:=by simp
 clear hr
 go_enter Tryz.func88,Tryz.ntmps88
 go_wp2_with fail
 generalize w.alloc (.cells #[.int .i64 6,.int .i64 pid,.int .i64 at_,.int .i64 n,.int .i64 prot,.slice A m c] 47)=wa at *
 obtain ⟨bx,hbx⟩:∃bx,w.heap.size=bx:=⟨_,rfl⟩
 rw [hbx] at HC hlb ⊢
 refine (HR.out wa).mono ?_
 rintro e w1 ⟨rfl,hb1⟩
 obtain ⟨k0,k1,k2,k3,k4,k5⟩:=HC.out _ hb1
 have HB1:=hJ hb1
 have HB:=hJ (HB0.out.trans (hb1.mono HB0.out.size))
 have lb1:=lt_of_cell k0
 clear hb1 HR hbx
 have HM:=hJ (h.up HB.out)
 have lX:=HM.out.f.ltX
 have x9:=HM.out.f.c9
 have HH:Hid (∀V,Below w1.heap.size w1 V→Calls Tryz.prog 136 #[.pointer (some ⟨D.S,0,none⟩),.int .i64 pid] V fun e w'=>e=.returned (.bool false)∧Below V.heap.size V w'):=hJ fun V hV=>by
  have:=npHas_any (HM.out.f.up hV) pid
  rw [hh] at this
  exact this.mono fun e w' ⟨h1,h2⟩=>⟨h1,h2 ▸ Below.refl _ _⟩
 clear h hh
 go_upto_region 10 with (fail)
 refine wp_region_up (by kernel_rfl) (by kernel_rfl) ?_
 repeat (go_big_quiet_step (first|(go_at_call 136;exact Calls.up_of (HH.out _ (Up.h _)))))
 refine wpQuiet_nil ?_
 rintro _ ⟨g,rfl⟩
 go_wp2
 go_ret
 exact ⟨rfl,HB.out.trans (g.h.mono HB.out.size)⟩
theorem chk_none7 (h:MaAt w D P) (pid at_ n prot:Int) (A:Option Addr) (m c:Nat) (hr:right9 7 (pid !=0) (at_ !=0) (n !=0) (prot !=0) (decide (0<m))=true) (hh:hasF (P.map Option.isSome) pid=false):Calls Tryz.prog 88 #[.pointer (some ⟨D.X,0,none⟩),.agg #[.int .i64 7,.int .i64 pid,.int .i64 at_,.int .i64 n,.int .i64 prot,.slice A m c]] w fun e w'=>e=.returned (.int .i64 2)∧Below w.heap.size w w':=by
 have HR:=hJ (fun V:World=>mRight_any V 7 pid at_ n prot A m c)
 rw [hr] at HR
 have HB0:=hJ (show Below w.heap.size w (w.alloc (.cells #[.int .i64 7,.int .i64 pid,.int .i64 at_,.int .i64 n,.int .i64 prot,.slice A m c] 47)) from jB.alloc jN _)
 have HC:Hid (∀W,Below (w.alloc (.cells #[.int .i64 7,.int .i64 pid,.int .i64 at_,.int .i64 n,.int .i64 prot,.slice A m c] 47)).heap.size (w.alloc (.cells #[.int .i64 7,.int .i64 pid,.int .i64 at_,.int .i64 n,.int .i64 prot,.slice A m c] 47)) W→_):=hJ fun W hb=>op_cells hb
 have hlb:w.heap.size<(w.alloc (.cells #[.int .i64 7,.int .i64 pid,.int .i64 at_,.int .i64 n,.int .i64 prot,.slice A m c] 47)).heap.size:=by simp
 clear hr
 go_enter Tryz.func88,Tryz.ntmps88
 go_wp2_with fail
 generalize w.alloc (.cells #[.int .i64 7,.int .i64 pid,.int .i64 at_,.int .i64 n,.int .i64 prot,.slice A m c] 47)=wa at *
 obtain ⟨bx,hbx⟩:∃bx,w.heap.size=bx:=⟨_,rfl⟩
 rw [hbx] at HC hlb ⊢
 refine (HR.out wa).mono ?_
 rintro e w1 ⟨rfl,hb1⟩
 obtain ⟨k0,k1,k2,k3,k4,k5⟩:=HC.out _ hb1
 have HB1:=hJ hb1
 have HB:=hJ (HB0.out.trans (hb1.mono HB0.out.size))
 have lb1:=lt_of_cell k0
 clear hb1 HR hbx
 have HM:=hJ (h.up HB.out)
 have lX:=HM.out.f.ltX
 have x9:=HM.out.f.c9
 have HH:Hid (∀V,Below w1.heap.size w1 V→Calls Tryz.prog 136 #[.pointer (some ⟨D.S,0,none⟩),.int .i64 pid] V fun e w'=>e=.returned (.bool false)∧Below V.heap.size V w'):=hJ fun V hV=>by
  have:=npHas_any (HM.out.f.up hV) pid
  rw [hh] at this
  exact this.mono fun e w' ⟨h1,h2⟩=>⟨h1,h2 ▸ Below.refl _ _⟩
 clear h hh
 go_upto_region 10 with (fail)
 refine wp_region_up (by kernel_rfl) (by kernel_rfl) ?_
 repeat (go_big_quiet_step (first|(go_at_call 136;exact Calls.up_of (HH.out _ (Up.h _)))))
 refine wpQuiet_nil ?_
 rintro _ ⟨g,rfl⟩
 go_wp2
 go_ret
 exact ⟨rfl,HB.out.trans (g.h.mono HB.out.size)⟩
theorem chk_none8 (h:MaAt w D P) (pid at_ n prot:Int) (A:Option Addr) (m c:Nat) (hr:right9 8 (pid !=0) (at_ !=0) (n !=0) (prot !=0) (decide (0<m))=true) (hh:hasF (P.map Option.isSome) pid=false):Calls Tryz.prog 88 #[.pointer (some ⟨D.X,0,none⟩),.agg #[.int .i64 8,.int .i64 pid,.int .i64 at_,.int .i64 n,.int .i64 prot,.slice A m c]] w fun e w'=>e=.returned (.int .i64 2)∧Below w.heap.size w w':=by
 have HR:=hJ (fun V:World=>mRight_any V 8 pid at_ n prot A m c)
 rw [hr] at HR
 have HB0:=hJ (show Below w.heap.size w (w.alloc (.cells #[.int .i64 8,.int .i64 pid,.int .i64 at_,.int .i64 n,.int .i64 prot,.slice A m c] 47)) from jB.alloc jN _)
 have HC:Hid (∀W,Below (w.alloc (.cells #[.int .i64 8,.int .i64 pid,.int .i64 at_,.int .i64 n,.int .i64 prot,.slice A m c] 47)).heap.size (w.alloc (.cells #[.int .i64 8,.int .i64 pid,.int .i64 at_,.int .i64 n,.int .i64 prot,.slice A m c] 47)) W→_):=hJ fun W hb=>op_cells hb
 have hlb:w.heap.size<(w.alloc (.cells #[.int .i64 8,.int .i64 pid,.int .i64 at_,.int .i64 n,.int .i64 prot,.slice A m c] 47)).heap.size:=by simp
 clear hr
 go_enter Tryz.func88,Tryz.ntmps88
 go_wp2_with fail
 generalize w.alloc (.cells #[.int .i64 8,.int .i64 pid,.int .i64 at_,.int .i64 n,.int .i64 prot,.slice A m c] 47)=wa at *
 obtain ⟨bx,hbx⟩:∃bx,w.heap.size=bx:=⟨_,rfl⟩
 rw [hbx] at HC hlb ⊢
 refine (HR.out wa).mono ?_
 rintro e w1 ⟨rfl,hb1⟩
 obtain ⟨k0,k1,k2,k3,k4,k5⟩:=HC.out _ hb1
 have HB1:=hJ hb1
 have HB:=hJ (HB0.out.trans (hb1.mono HB0.out.size))
 have lb1:=lt_of_cell k0
 clear hb1 HR hbx
 have HM:=hJ (h.up HB.out)
 have lX:=HM.out.f.ltX
 have x9:=HM.out.f.c9
 have HH:Hid (∀V,Below w1.heap.size w1 V→Calls Tryz.prog 136 #[.pointer (some ⟨D.S,0,none⟩),.int .i64 pid] V fun e w'=>e=.returned (.bool false)∧Below V.heap.size V w'):=hJ fun V hV=>by
  have:=npHas_any (HM.out.f.up hV) pid
  rw [hh] at this
  exact this.mono fun e w' ⟨h1,h2⟩=>⟨h1,h2 ▸ Below.refl _ _⟩
 clear h hh
 go_upto_region 10 with (fail)
 refine wp_region_up (by kernel_rfl) (by kernel_rfl) ?_
 repeat (go_big_quiet_step (first|(go_at_call 136;exact Calls.up_of (HH.out _ (Up.h _)))))
 refine wpQuiet_nil ?_
 rintro _ ⟨g,rfl⟩
 go_wp2
 go_ret
 exact ⟨rfl,HB.out.trans (g.h.mono HB.out.size)⟩
theorem chk_regs2 (h:MaAt w D P) (hk:P[k]? =some (some p)) (at_ n prot:Int) (A:Option Addr) (m c:Nat) (hrg:rightL D.ps p.R=true) (hrl:p.R.length≤1000) (hr:right9 2 ((k:Int) !=0) (at_ !=0) (n !=0) (prot !=0) (decide (0<m))=true):Calls Tryz.prog 88 #[.pointer (some ⟨D.X,0,none⟩),.agg #[.int .i64 2,.int .i64 (k:Nat),.int .i64 at_,.int .i64 n,.int .i64 prot,.slice A m c]] w fun e w'=>e=.returned (.int .i64 (mappedF D.sd p.R at_ n prot).2)∧Below w.heap.size w w':=by
 have hh:=h.has hk
 have HR:=hJ (fun V:World=>mRight_any V 2 (k:Nat) at_ n prot A m c)
 rw [hr] at HR
 have HB0:=hJ (show Below w.heap.size w (w.alloc (.cells #[.int .i64 2,.int .i64 (k:Nat),.int .i64 at_,.int .i64 n,.int .i64 prot,.slice A m c] 47)) from jB.alloc jN _)
 have HC:Hid (∀W,Below (w.alloc (.cells #[.int .i64 2,.int .i64 (k:Nat),.int .i64 at_,.int .i64 n,.int .i64 prot,.slice A m c] 47)).heap.size (w.alloc (.cells #[.int .i64 2,.int .i64 (k:Nat),.int .i64 at_,.int .i64 n,.int .i64 prot,.slice A m c] 47)) W→_):=hJ fun W hb=>op_cells hb
 have hlb:w.heap.size<(w.alloc (.cells #[.int .i64 2,.int .i64 (k:Nat),.int .i64 at_,.int .i64 n,.int .i64 prot,.slice A m c] 47)).heap.size:=by simp
 clear hr
 go_enter Tryz.func88,Tryz.ntmps88
 go_wp2_with fail
 generalize w.alloc (.cells #[.int .i64 2,.int .i64 (k:Nat),.int .i64 at_,.int .i64 n,.int .i64 prot,.slice A m c] 47)=wa at *
 obtain ⟨bx,hbx⟩:∃bx,w.heap.size=bx:=⟨_,rfl⟩
 rw [hbx] at HC hlb ⊢
 refine (HR.out wa).mono ?_
 rintro e w1 ⟨rfl,hb1⟩
 obtain ⟨k0,k1,k2,k3,k4,k5⟩:=HC.out _ hb1
 have HB1:=hJ hb1
 have HB:=hJ (HB0.out.trans (hb1.mono HB0.out.size))
 have lb1:=lt_of_cell k0
 clear hb1 HR hbx
 have HM:=hJ (h.up HB.out)
 have lX:=HM.out.f.ltX
 have x9:=HM.out.f.c9
 have HH:Hid (∀V,Below w1.heap.size w1 V→Calls Tryz.prog 136 #[.pointer (some ⟨D.S,0,none⟩),.int .i64 (k:Nat)] V fun e w'=>e=.returned (.bool true)∧Below V.heap.size V w'):=hJ fun V hV=>by
  have:=npHas_any (HM.out.f.up hV) (k:Nat)
  rw [hh] at this
  exact this.mono fun e w' ⟨h1,h2⟩=>⟨h1,h2 ▸ Below.refl _ _⟩
 clear h hh
 go_upto_region 10 with (fail)
 refine wp_region_up (by kernel_rfl) (by kernel_rfl) ?_
 repeat (go_big_quiet_step (first|(go_at_call 136;exact Calls.up_of (HH.out _ (Up.h _)))))
 refine wpQuiet_nil ?_
 rintro _ ⟨g,rfl⟩
 go_upto_region 12 with (fail)
 refine wp_forget (fun V=>Below w1.heap.size w1 V) g.h ?_
 clear HH k0 k1 k2 k3 k4 k5 lb1 x9 lX
 rintro V hV
 have HBV:=hJ (HB.out.trans (hV.mono HB.out.size))
 have HV1:=hJ (HB1.out.trans (hV.mono HB1.out.size))
 obtain ⟨k0,k1,k2,k3,k4,k5⟩:=HC.out _ HV1.out
 have HMV:=hJ (HM.out.up hV)
 have lX:=HMV.out.f.ltX
 have x10:=HMV.out.f.c10
 obtain ⟨gq,hgq,lgq,hcq,_⟩:=HMV.out.f.qAt
 have q0:=hcq k (some p.X) (by rw [List.getElem?_map,hk];rfl)
 unfold MaD.qv at x10
 rw [hgq] at x10
 have lbV:=lt_of_cell k0
 have hkn:k<D.n:=by rw [←HMV.out.len];exact (jS.1 hk).1
 have hkI:(k:Int)<(D.n:Int):=by omega
 have hk0:(0:Int)≤(k:Int):=by omega
 simp only [Option.map_some] at q0
 have HPV:=hJ (HMV.out.get hk)
 clear hV hcq hgq
 refine wp_region_up (by kernel_rfl) (by kernel_rfl) ?_
 repeat (go_big_quiet_step (fail))
 refine wpQuiet_nil ?_
 rintro _ ⟨g2,rfl⟩
 have HG2:=hJ g2.h
 go_upto_region 13 with (fail)
 refine wp_forget (fun U=>Below V.heap.size V U) g2.h ?_
 clear k0 k1 k2 k3 k4 k5 lbV x10 lX q0 lgq HG2
 rintro U hU
 have HBU:=hJ (HBV.out.trans (hU.mono HBV.out.size))
 obtain ⟨k0,k1,k2,k3,k4,k5⟩:=HC.out _ (HV1.out.trans (hU.mono HV1.out.size))
 have HMU:=hJ (HMV.out.up hU)
 have HPU:=hJ (HPV.out.up hU)
 have lbU:=lt_of_cell k0
 clear hU
 have HRG:=hJ (maMap_any HMU.out.f HPU.out hrg hrl (k:Nat) at_ n prot (.slice A m c))
 go_wp2_with fail
 refine HRG.out.mono ?_
 rintro e w5 ⟨A',n',c',rfl,hb5,_⟩
 have HB5:=hJ hb5
 clear hb5
 go_wp2
 go_ret
 exact ⟨rfl,HBU.out.trans (HB5.out.mono HBU.out.size)⟩
theorem chk_regs3 (h:MaAt w D P) (hk:P[k]? =some (some p)) (at_ n prot:Int) (A:Option Addr) (m c:Nat) (hrg:rightL D.ps p.R=true) (hrl:p.R.length≤1000) (hr:right9 3 ((k:Int) !=0) (at_ !=0) (n !=0) (prot !=0) (decide (0<m))=true):Calls Tryz.prog 88 #[.pointer (some ⟨D.X,0,none⟩),.agg #[.int .i64 3,.int .i64 (k:Nat),.int .i64 at_,.int .i64 n,.int .i64 prot,.slice A m c]] w fun e w'=>e=.returned (.int .i64 (unmappedF D.sd p.R at_ n).2)∧Below w.heap.size w w':=by
 have hh:=h.has hk
 have HR:=hJ (fun V:World=>mRight_any V 3 (k:Nat) at_ n prot A m c)
 rw [hr] at HR
 have HB0:=hJ (show Below w.heap.size w (w.alloc (.cells #[.int .i64 3,.int .i64 (k:Nat),.int .i64 at_,.int .i64 n,.int .i64 prot,.slice A m c] 47)) from jB.alloc jN _)
 have HC:Hid (∀W,Below (w.alloc (.cells #[.int .i64 3,.int .i64 (k:Nat),.int .i64 at_,.int .i64 n,.int .i64 prot,.slice A m c] 47)).heap.size (w.alloc (.cells #[.int .i64 3,.int .i64 (k:Nat),.int .i64 at_,.int .i64 n,.int .i64 prot,.slice A m c] 47)) W→_):=hJ fun W hb=>op_cells hb
 have hlb:w.heap.size<(w.alloc (.cells #[.int .i64 3,.int .i64 (k:Nat),.int .i64 at_,.int .i64 n,.int .i64 prot,.slice A m c] 47)).heap.size:=by simp
 clear hr
 go_enter Tryz.func88,Tryz.ntmps88
 go_wp2_with fail
 generalize w.alloc (.cells #[.int .i64 3,.int .i64 (k:Nat),.int .i64 at_,.int .i64 n,.int .i64 prot,.slice A m c] 47)=wa at *
 obtain ⟨bx,hbx⟩:∃bx,w.heap.size=bx:=⟨_,rfl⟩
 rw [hbx] at HC hlb ⊢
 refine (HR.out wa).mono ?_
 rintro e w1 ⟨rfl,hb1⟩
 obtain ⟨k0,k1,k2,k3,k4,k5⟩:=HC.out _ hb1
 have HB1:=hJ hb1
 have HB:=hJ (HB0.out.trans (hb1.mono HB0.out.size))
 have lb1:=lt_of_cell k0
 clear hb1 HR hbx
 have HM:=hJ (h.up HB.out)
 have lX:=HM.out.f.ltX
 have x9:=HM.out.f.c9
 have HH:Hid (∀V,Below w1.heap.size w1 V→Calls Tryz.prog 136 #[.pointer (some ⟨D.S,0,none⟩),.int .i64 (k:Nat)] V fun e w'=>e=.returned (.bool true)∧Below V.heap.size V w'):=hJ fun V hV=>by
  have:=npHas_any (HM.out.f.up hV) (k:Nat)
  rw [hh] at this
  exact this.mono fun e w' ⟨h1,h2⟩=>⟨h1,h2 ▸ Below.refl _ _⟩
 clear h hh
 go_upto_region 10 with (fail)
 refine wp_region_up (by kernel_rfl) (by kernel_rfl) ?_
 repeat (go_big_quiet_step (first|(go_at_call 136;exact Calls.up_of (HH.out _ (Up.h _)))))
 refine wpQuiet_nil ?_
 rintro _ ⟨g,rfl⟩
 go_upto_region 12 with (fail)
 refine wp_forget (fun V=>Below w1.heap.size w1 V) g.h ?_
 clear HH k0 k1 k2 k3 k4 k5 lb1 x9 lX
 rintro V hV
 have HBV:=hJ (HB.out.trans (hV.mono HB.out.size))
 have HV1:=hJ (HB1.out.trans (hV.mono HB1.out.size))
 obtain ⟨k0,k1,k2,k3,k4,k5⟩:=HC.out _ HV1.out
 have HMV:=hJ (HM.out.up hV)
 have lX:=HMV.out.f.ltX
 have x10:=HMV.out.f.c10
 obtain ⟨gq,hgq,lgq,hcq,_⟩:=HMV.out.f.qAt
 have q0:=hcq k (some p.X) (by rw [List.getElem?_map,hk];rfl)
 unfold MaD.qv at x10
 rw [hgq] at x10
 have lbV:=lt_of_cell k0
 have hkn:k<D.n:=by rw [←HMV.out.len];exact (jS.1 hk).1
 have hkI:(k:Int)<(D.n:Int):=by omega
 have hk0:(0:Int)≤(k:Int):=by omega
 simp only [Option.map_some] at q0
 have HPV:=hJ (HMV.out.get hk)
 clear hV hcq hgq
 refine wp_region_up (by kernel_rfl) (by kernel_rfl) ?_
 repeat (go_big_quiet_step (fail))
 refine wpQuiet_nil ?_
 rintro _ ⟨g2,rfl⟩
 have HG2:=hJ g2.h
 go_upto_region 13 with (fail)
 refine wp_forget (fun U=>Below V.heap.size V U) g2.h ?_
 clear k0 k1 k2 k3 k4 k5 lbV x10 lX q0 lgq HG2
 rintro U hU
 have HBU:=hJ (HBV.out.trans (hU.mono HBV.out.size))
 obtain ⟨k0,k1,k2,k3,k4,k5⟩:=HC.out _ (HV1.out.trans (hU.mono HV1.out.size))
 have HMU:=hJ (HMV.out.up hU)
 have HPU:=hJ (HPV.out.up hU)
 have lbU:=lt_of_cell k0
 clear hU
 have HRG:=hJ (maUnmap_any HMU.out.f HPU.out hrg hrl (k:Nat) at_ n prot (.slice A m c))
 go_wp2_with fail
 refine HRG.out.mono ?_
 rintro e w5 ⟨A',n',c',rfl,hb5,_⟩
 have HB5:=hJ hb5
 clear hb5
 go_wp2
 go_ret
 exact ⟨rfl,HBU.out.trans (HB5.out.mono HBU.out.size)⟩
theorem chk_regs4 (h:MaAt w D P) (hk:P[k]? =some (some p)) (at_ n prot:Int) (A:Option Addr) (m c:Nat) (hrg:rightL D.ps p.R=true) (hrl:p.R.length≤1000) (hr:right9 4 ((k:Int) !=0) (at_ !=0) (n !=0) (prot !=0) (decide (0<m))=true):Calls Tryz.prog 88 #[.pointer (some ⟨D.X,0,none⟩),.agg #[.int .i64 4,.int .i64 (k:Nat),.int .i64 at_,.int .i64 n,.int .i64 prot,.slice A m c]] w fun e w'=>e=.returned (.int .i64 (protectedF D.sd p.R at_ n prot).2)∧Below w.heap.size w w':=by
 have hh:=h.has hk
 have HR:=hJ (fun V:World=>mRight_any V 4 (k:Nat) at_ n prot A m c)
 rw [hr] at HR
 have HB0:=hJ (show Below w.heap.size w (w.alloc (.cells #[.int .i64 4,.int .i64 (k:Nat),.int .i64 at_,.int .i64 n,.int .i64 prot,.slice A m c] 47)) from jB.alloc jN _)
 have HC:Hid (∀W,Below (w.alloc (.cells #[.int .i64 4,.int .i64 (k:Nat),.int .i64 at_,.int .i64 n,.int .i64 prot,.slice A m c] 47)).heap.size (w.alloc (.cells #[.int .i64 4,.int .i64 (k:Nat),.int .i64 at_,.int .i64 n,.int .i64 prot,.slice A m c] 47)) W→_):=hJ fun W hb=>op_cells hb
 have hlb:w.heap.size<(w.alloc (.cells #[.int .i64 4,.int .i64 (k:Nat),.int .i64 at_,.int .i64 n,.int .i64 prot,.slice A m c] 47)).heap.size:=by simp
 clear hr
 go_enter Tryz.func88,Tryz.ntmps88
 go_wp2_with fail
 generalize w.alloc (.cells #[.int .i64 4,.int .i64 (k:Nat),.int .i64 at_,.int .i64 n,.int .i64 prot,.slice A m c] 47)=wa at *
 obtain ⟨bx,hbx⟩:∃bx,w.heap.size=bx:=⟨_,rfl⟩
 rw [hbx] at HC hlb ⊢
 refine (HR.out wa).mono ?_
 rintro e w1 ⟨rfl,hb1⟩
 obtain ⟨k0,k1,k2,k3,k4,k5⟩:=HC.out _ hb1
 have HB1:=hJ hb1
 have HB:=hJ (HB0.out.trans (hb1.mono HB0.out.size))
 have lb1:=lt_of_cell k0
 clear hb1 HR hbx
 have HM:=hJ (h.up HB.out)
 have lX:=HM.out.f.ltX
 have x9:=HM.out.f.c9
 have HH:Hid (∀V,Below w1.heap.size w1 V→Calls Tryz.prog 136 #[.pointer (some ⟨D.S,0,none⟩),.int .i64 (k:Nat)] V fun e w'=>e=.returned (.bool true)∧Below V.heap.size V w'):=hJ fun V hV=>by
  have:=npHas_any (HM.out.f.up hV) (k:Nat)
  rw [hh] at this
  exact this.mono fun e w' ⟨h1,h2⟩=>⟨h1,h2 ▸ Below.refl _ _⟩
 clear h hh
 go_upto_region 10 with (fail)
 refine wp_region_up (by kernel_rfl) (by kernel_rfl) ?_
 repeat (go_big_quiet_step (first|(go_at_call 136;exact Calls.up_of (HH.out _ (Up.h _)))))
 refine wpQuiet_nil ?_
 rintro _ ⟨g,rfl⟩
 go_upto_region 12 with (fail)
 refine wp_forget (fun V=>Below w1.heap.size w1 V) g.h ?_
 clear HH k0 k1 k2 k3 k4 k5 lb1 x9 lX
 rintro V hV
 have HBV:=hJ (HB.out.trans (hV.mono HB.out.size))
 have HV1:=hJ (HB1.out.trans (hV.mono HB1.out.size))
 obtain ⟨k0,k1,k2,k3,k4,k5⟩:=HC.out _ HV1.out
 have HMV:=hJ (HM.out.up hV)
 have lX:=HMV.out.f.ltX
 have x10:=HMV.out.f.c10
 obtain ⟨gq,hgq,lgq,hcq,_⟩:=HMV.out.f.qAt
 have q0:=hcq k (some p.X) (by rw [List.getElem?_map,hk];rfl)
 unfold MaD.qv at x10
 rw [hgq] at x10
 have lbV:=lt_of_cell k0
 have hkn:k<D.n:=by rw [←HMV.out.len];exact (jS.1 hk).1
 have hkI:(k:Int)<(D.n:Int):=by omega
 have hk0:(0:Int)≤(k:Int):=by omega
 simp only [Option.map_some] at q0
 have HPV:=hJ (HMV.out.get hk)
 clear hV hcq hgq
 refine wp_region_up (by kernel_rfl) (by kernel_rfl) ?_
 repeat (go_big_quiet_step (fail))
 refine wpQuiet_nil ?_
 rintro _ ⟨g2,rfl⟩
 have HG2:=hJ g2.h
 go_upto_region 13 with (fail)
 refine wp_forget (fun U=>Below V.heap.size V U) g2.h ?_
 clear k0 k1 k2 k3 k4 k5 lbV x10 lX q0 lgq HG2
 rintro U hU
 have HBU:=hJ (HBV.out.trans (hU.mono HBV.out.size))
 obtain ⟨k0,k1,k2,k3,k4,k5⟩:=HC.out _ (HV1.out.trans (hU.mono HV1.out.size))
 have HMU:=hJ (HMV.out.up hU)
 have HPU:=hJ (HPV.out.up hU)
 have lbU:=lt_of_cell k0
 clear hU
 have HRG:=hJ (maProt_any HMU.out.f HPU.out hrg hrl (k:Nat) at_ n prot (.slice A m c))
 go_wp2_with fail
 refine HRG.out.mono ?_
 rintro e w5 ⟨A',n',c',rfl,hb5,_⟩
 have HB5:=hJ hb5
 clear hb5
 go_wp2
 go_ret
 exact ⟨rfl,HBU.out.trans (HB5.out.mono HBU.out.size)⟩
theorem chk_bytes5 (h:MaAt w D P) (hk:P[k]? =some (some p)) (at_ n prot:Int) (A:Option Addr) (m c:Nat) (hrg:rightL D.ps p.R=true) (hrl:p.R.length≤1000) (hr:right9 5 ((k:Int) !=0) (at_ !=0) (n !=0) (prot !=0) (decide (0<m))=true):Calls Tryz.prog 88 #[.pointer (some ⟨D.X,0,none⟩),.agg #[.int .i64 5,.int .i64 (k:Nat),.int .i64 at_,.int .i64 n,.int .i64 prot,.slice A m c]] w fun e w'=>e=.returned (.int .i64 (checkF D.sd p.R at_ n 1))∧Below w.heap.size w w':=by
 have hh:=h.has hk
 have HR:=hJ (fun V:World=>mRight_any V 5 (k:Nat) at_ n prot A m c)
 rw [hr] at HR
 have HB0:=hJ (show Below w.heap.size w (w.alloc (.cells #[.int .i64 5,.int .i64 (k:Nat),.int .i64 at_,.int .i64 n,.int .i64 prot,.slice A m c] 47)) from jB.alloc jN _)
 have HC:Hid (∀W,Below (w.alloc (.cells #[.int .i64 5,.int .i64 (k:Nat),.int .i64 at_,.int .i64 n,.int .i64 prot,.slice A m c] 47)).heap.size (w.alloc (.cells #[.int .i64 5,.int .i64 (k:Nat),.int .i64 at_,.int .i64 n,.int .i64 prot,.slice A m c] 47)) W→_):=hJ fun W hb=>op_cells hb
 have hlb:w.heap.size<(w.alloc (.cells #[.int .i64 5,.int .i64 (k:Nat),.int .i64 at_,.int .i64 n,.int .i64 prot,.slice A m c] 47)).heap.size:=by simp
 clear hr
 go_enter Tryz.func88,Tryz.ntmps88
 go_wp2_with fail
 generalize w.alloc (.cells #[.int .i64 5,.int .i64 (k:Nat),.int .i64 at_,.int .i64 n,.int .i64 prot,.slice A m c] 47)=wa at *
 obtain ⟨bx,hbx⟩:∃bx,w.heap.size=bx:=⟨_,rfl⟩
 rw [hbx] at HC hlb ⊢
 refine (HR.out wa).mono ?_
 rintro e w1 ⟨rfl,hb1⟩
 obtain ⟨k0,k1,k2,k3,k4,k5⟩:=HC.out _ hb1
 have HB1:=hJ hb1
 have HB:=hJ (HB0.out.trans (hb1.mono HB0.out.size))
 have lb1:=lt_of_cell k0
 clear hb1 HR hbx
 have HM:=hJ (h.up HB.out)
 have lX:=HM.out.f.ltX
 have x9:=HM.out.f.c9
 have HH:Hid (∀V,Below w1.heap.size w1 V→Calls Tryz.prog 136 #[.pointer (some ⟨D.S,0,none⟩),.int .i64 (k:Nat)] V fun e w'=>e=.returned (.bool true)∧Below V.heap.size V w'):=hJ fun V hV=>by
  have:=npHas_any (HM.out.f.up hV) (k:Nat)
  rw [hh] at this
  exact this.mono fun e w' ⟨h1,h2⟩=>⟨h1,h2 ▸ Below.refl _ _⟩
 clear h hh
 go_upto_region 10 with (fail)
 refine wp_region_up (by kernel_rfl) (by kernel_rfl) ?_
 repeat (go_big_quiet_step (first|(go_at_call 136;exact Calls.up_of (HH.out _ (Up.h _)))))
 refine wpQuiet_nil ?_
 rintro _ ⟨g,rfl⟩
 go_upto_region 12 with (fail)
 refine wp_forget (fun V=>Below w1.heap.size w1 V) g.h ?_
 clear HH k0 k1 k2 k3 k4 k5 lb1 x9 lX
 rintro V hV
 have HBV:=hJ (HB.out.trans (hV.mono HB.out.size))
 have HV1:=hJ (HB1.out.trans (hV.mono HB1.out.size))
 obtain ⟨k0,k1,k2,k3,k4,k5⟩:=HC.out _ HV1.out
 have HMV:=hJ (HM.out.up hV)
 have lX:=HMV.out.f.ltX
 have x10:=HMV.out.f.c10
 obtain ⟨gq,hgq,lgq,hcq,_⟩:=HMV.out.f.qAt
 have q0:=hcq k (some p.X) (by rw [List.getElem?_map,hk];rfl)
 unfold MaD.qv at x10
 rw [hgq] at x10
 have lbV:=lt_of_cell k0
 have hkn:k<D.n:=by rw [←HMV.out.len];exact (jS.1 hk).1
 have hkI:(k:Int)<(D.n:Int):=by omega
 have hk0:(0:Int)≤(k:Int):=by omega
 simp only [Option.map_some] at q0
 have HPV:=hJ (HMV.out.get hk)
 clear hV hcq hgq
 refine wp_region_up (by kernel_rfl) (by kernel_rfl) ?_
 repeat (go_big_quiet_step (fail))
 refine wpQuiet_nil ?_
 rintro _ ⟨g2,rfl⟩
 have HG2:=hJ g2.h
 go_upto_region 13 with (fail)
 refine wp_forget (fun U=>Below V.heap.size V U) g2.h ?_
 clear k0 k1 k2 k3 k4 k5 lbV x10 lX q0 lgq HG2
 rintro U hU
 have HBU:=hJ (HBV.out.trans (hU.mono HBV.out.size))
 obtain ⟨k0,k1,k2,k3,k4,k5⟩:=HC.out _ (HV1.out.trans (hU.mono HV1.out.size))
 have HMU:=hJ (HMV.out.up hU)
 have HPU:=hJ (HPV.out.up hU)
 have lbU:=lt_of_cell k0
 clear hU
 have HRG:=hJ (maBytes_any HMU.out.f HPU.out hrg (by omega) at_ n 1)
 go_wp2_with fail
 refine HRG.out.mono ?_
 rintro e w5 ⟨rfl,hb5⟩
 have HB5:=hJ hb5
 clear hb5
 go_wp2
 go_ret
 exact ⟨rfl,HBU.out.trans (HB5.out.mono HBU.out.size)⟩
theorem chk_bytes6 (h:MaAt w D P) (hk:P[k]? =some (some p)) (at_ n prot:Int) (A:Option Addr) (m c:Nat) (hrg:rightL D.ps p.R=true) (hrl:p.R.length≤1000) (hr:right9 6 ((k:Int) !=0) (at_ !=0) (n !=0) (prot !=0) (decide (0<m))=true):Calls Tryz.prog 88 #[.pointer (some ⟨D.X,0,none⟩),.agg #[.int .i64 6,.int .i64 (k:Nat),.int .i64 at_,.int .i64 n,.int .i64 prot,.slice A m c]] w fun e w'=>e=.returned (.int .i64 (checkF D.sd p.R at_ (m:Nat) 2))∧Below w.heap.size w w':=by
 have hh:=h.has hk
 have HR:=hJ (fun V:World=>mRight_any V 6 (k:Nat) at_ n prot A m c)
 rw [hr] at HR
 have HB0:=hJ (show Below w.heap.size w (w.alloc (.cells #[.int .i64 6,.int .i64 (k:Nat),.int .i64 at_,.int .i64 n,.int .i64 prot,.slice A m c] 47)) from jB.alloc jN _)
 have HC:Hid (∀W,Below (w.alloc (.cells #[.int .i64 6,.int .i64 (k:Nat),.int .i64 at_,.int .i64 n,.int .i64 prot,.slice A m c] 47)).heap.size (w.alloc (.cells #[.int .i64 6,.int .i64 (k:Nat),.int .i64 at_,.int .i64 n,.int .i64 prot,.slice A m c] 47)) W→_):=hJ fun W hb=>op_cells hb
 have hlb:w.heap.size<(w.alloc (.cells #[.int .i64 6,.int .i64 (k:Nat),.int .i64 at_,.int .i64 n,.int .i64 prot,.slice A m c] 47)).heap.size:=by simp
 clear hr
 go_enter Tryz.func88,Tryz.ntmps88
 go_wp2_with fail
 generalize w.alloc (.cells #[.int .i64 6,.int .i64 (k:Nat),.int .i64 at_,.int .i64 n,.int .i64 prot,.slice A m c] 47)=wa at *
 obtain ⟨bx,hbx⟩:∃bx,w.heap.size=bx:=⟨_,rfl⟩
 rw [hbx] at HC hlb ⊢
 refine (HR.out wa).mono ?_
 rintro e w1 ⟨rfl,hb1⟩
 obtain ⟨k0,k1,k2,k3,k4,k5⟩:=HC.out _ hb1
 have HB1:=hJ hb1
 have HB:=hJ (HB0.out.trans (hb1.mono HB0.out.size))
 have lb1:=lt_of_cell k0
 clear hb1 HR hbx
 have HM:=hJ (h.up HB.out)
 have lX:=HM.out.f.ltX
 have x9:=HM.out.f.c9
 have HH:Hid (∀V,Below w1.heap.size w1 V→Calls Tryz.prog 136 #[.pointer (some ⟨D.S,0,none⟩),.int .i64 (k:Nat)] V fun e w'=>e=.returned (.bool true)∧Below V.heap.size V w'):=hJ fun V hV=>by
  have:=npHas_any (HM.out.f.up hV) (k:Nat)
  rw [hh] at this
  exact this.mono fun e w' ⟨h1,h2⟩=>⟨h1,h2 ▸ Below.refl _ _⟩
 clear h hh
 go_upto_region 10 with (fail)
 refine wp_region_up (by kernel_rfl) (by kernel_rfl) ?_
 repeat (go_big_quiet_step (first|(go_at_call 136;exact Calls.up_of (HH.out _ (Up.h _)))))
 refine wpQuiet_nil ?_
 rintro _ ⟨g,rfl⟩
 go_upto_region 12 with (fail)
 refine wp_forget (fun V=>Below w1.heap.size w1 V) g.h ?_
 clear HH k0 k1 k2 k3 k4 k5 lb1 x9 lX
 rintro V hV
 have HBV:=hJ (HB.out.trans (hV.mono HB.out.size))
 have HV1:=hJ (HB1.out.trans (hV.mono HB1.out.size))
 obtain ⟨k0,k1,k2,k3,k4,k5⟩:=HC.out _ HV1.out
 have HMV:=hJ (HM.out.up hV)
 have lX:=HMV.out.f.ltX
 have x10:=HMV.out.f.c10
 obtain ⟨gq,hgq,lgq,hcq,_⟩:=HMV.out.f.qAt
 have q0:=hcq k (some p.X) (by rw [List.getElem?_map,hk];rfl)
 unfold MaD.qv at x10
 rw [hgq] at x10
 have lbV:=lt_of_cell k0
 have hkn:k<D.n:=by rw [←HMV.out.len];exact (jS.1 hk).1
 have hkI:(k:Int)<(D.n:Int):=by omega
 have hk0:(0:Int)≤(k:Int):=by omega
 simp only [Option.map_some] at q0
 have HPV:=hJ (HMV.out.get hk)
 clear hV hcq hgq
 refine wp_region_up (by kernel_rfl) (by kernel_rfl) ?_
 repeat (go_big_quiet_step (fail))
 refine wpQuiet_nil ?_
 rintro _ ⟨g2,rfl⟩
 have HG2:=hJ g2.h
 go_upto_region 13 with (fail)
 refine wp_forget (fun U=>Below V.heap.size V U) g2.h ?_
 clear k0 k1 k2 k3 k4 k5 lbV x10 lX q0 lgq HG2
 rintro U hU
 have HBU:=hJ (HBV.out.trans (hU.mono HBV.out.size))
 obtain ⟨k0,k1,k2,k3,k4,k5⟩:=HC.out _ (HV1.out.trans (hU.mono HV1.out.size))
 have HMU:=hJ (HMV.out.up hU)
 have HPU:=hJ (HPV.out.up hU)
 have lbU:=lt_of_cell k0
 clear hU
 have HRG:=hJ (maBytes_any HMU.out.f HPU.out hrg (by omega) at_ (m:Nat) 2)
 go_wp2_with fail
 refine HRG.out.mono ?_
 rintro e w5 ⟨rfl,hb5⟩
 have HB5:=hJ hb5
 clear hb5
 go_wp2
 go_ret
 exact ⟨rfl,HBU.out.trans (HB5.out.mono HBU.out.size)⟩
theorem chk_exit (h:MaAt w D P) (hk:P[k]? =some (some p)) (at_ n prot:Int) (A:Option Addr) (m c:Nat) (hr:right9 8 ((k:Int) !=0) (at_ !=0) (n !=0) (prot !=0) (decide (0<m))=true):Calls Tryz.prog 88 #[.pointer (some ⟨D.X,0,none⟩),.agg #[.int .i64 8,.int .i64 (k:Nat),.int .i64 at_,.int .i64 n,.int .i64 prot,.slice A m c]] w fun e w'=>e=.returned (.int .i64 0)∧Below w.heap.size w w':=by
 have hh:=h.has hk
 have HR:=hJ (fun V:World=>mRight_any V 8 (k:Nat) at_ n prot A m c)
 rw [hr] at HR
 have HB0:=hJ (show Below w.heap.size w (w.alloc (.cells #[.int .i64 8,.int .i64 (k:Nat),.int .i64 at_,.int .i64 n,.int .i64 prot,.slice A m c] 47)) from jB.alloc jN _)
 have HC:Hid (∀W,Below (w.alloc (.cells #[.int .i64 8,.int .i64 (k:Nat),.int .i64 at_,.int .i64 n,.int .i64 prot,.slice A m c] 47)).heap.size (w.alloc (.cells #[.int .i64 8,.int .i64 (k:Nat),.int .i64 at_,.int .i64 n,.int .i64 prot,.slice A m c] 47)) W→_):=hJ fun W hb=>op_cells hb
 have hlb:w.heap.size<(w.alloc (.cells #[.int .i64 8,.int .i64 (k:Nat),.int .i64 at_,.int .i64 n,.int .i64 prot,.slice A m c] 47)).heap.size:=by simp
 clear hr
 go_enter Tryz.func88,Tryz.ntmps88
 go_wp2_with fail
 generalize w.alloc (.cells #[.int .i64 8,.int .i64 (k:Nat),.int .i64 at_,.int .i64 n,.int .i64 prot,.slice A m c] 47)=wa at *
 obtain ⟨bx,hbx⟩:∃bx,w.heap.size=bx:=⟨_,rfl⟩
 rw [hbx] at HC hlb ⊢
 refine (HR.out wa).mono ?_
 rintro e w1 ⟨rfl,hb1⟩
 obtain ⟨k0,k1,k2,k3,k4,k5⟩:=HC.out _ hb1
 have HB1:=hJ hb1
 have HB:=hJ (HB0.out.trans (hb1.mono HB0.out.size))
 have lb1:=lt_of_cell k0
 clear hb1 HR hbx
 have HM:=hJ (h.up HB.out)
 have lX:=HM.out.f.ltX
 have x9:=HM.out.f.c9
 have HH:Hid (∀V,Below w1.heap.size w1 V→Calls Tryz.prog 136 #[.pointer (some ⟨D.S,0,none⟩),.int .i64 (k:Nat)] V fun e w'=>e=.returned (.bool true)∧Below V.heap.size V w'):=hJ fun V hV=>by
  have:=npHas_any (HM.out.f.up hV) (k:Nat)
  rw [hh] at this
  exact this.mono fun e w' ⟨h1,h2⟩=>⟨h1,h2 ▸ Below.refl _ _⟩
 clear h hh
 go_upto_region 10 with (fail)
 refine wp_region_up (by kernel_rfl) (by kernel_rfl) ?_
 repeat (go_big_quiet_step (first|(go_at_call 136;exact Calls.up_of (HH.out _ (Up.h _)))))
 refine wpQuiet_nil ?_
 rintro _ ⟨g,rfl⟩
 go_upto_region 12 with (fail)
 refine wp_forget (fun V=>Below w1.heap.size w1 V) g.h ?_
 clear HH k0 k1 k2 k3 k4 k5 lb1 x9 lX
 rintro V hV
 have HBV:=hJ (HB.out.trans (hV.mono HB.out.size))
 have HV1:=hJ (HB1.out.trans (hV.mono HB1.out.size))
 obtain ⟨k0,k1,k2,k3,k4,k5⟩:=HC.out _ HV1.out
 have HMV:=hJ (HM.out.up hV)
 have lX:=HMV.out.f.ltX
 have x10:=HMV.out.f.c10
 obtain ⟨gq,hgq,lgq,hcq,_⟩:=HMV.out.f.qAt
 have q0:=hcq k (some p.X) (by rw [List.getElem?_map,hk];rfl)
 unfold MaD.qv at x10
 rw [hgq] at x10
 have lbV:=lt_of_cell k0
 have hkn:k<D.n:=by rw [←HMV.out.len];exact (jS.1 hk).1
 have hkI:(k:Int)<(D.n:Int):=by omega
 have hk0:(0:Int)≤(k:Int):=by omega
 simp only [Option.map_some] at q0
 have HPV:=hJ (HMV.out.get hk)
 clear hV hcq hgq
 refine wp_region_up (by kernel_rfl) (by kernel_rfl) ?_
 repeat (go_big_quiet_step (fail))
 refine wpQuiet_nil ?_
 rintro _ ⟨g2,rfl⟩
 have HG2:=hJ g2.h
 go_upto_region 13 with (fail)
 refine wp_forget (fun U=>Below V.heap.size V U) g2.h ?_
 clear k0 k1 k2 k3 k4 k5 lbV x10 lX q0 lgq HG2
 rintro U hU
 have HBU:=hJ (HBV.out.trans (hU.mono HBV.out.size))
 obtain ⟨k0,k1,k2,k3,k4,k5⟩:=HC.out _ (HV1.out.trans (hU.mono HV1.out.size))
 have HMU:=hJ (HMV.out.up hU)
 have HPU:=hJ (HPV.out.up hU)
 have lbU:=lt_of_cell k0
 clear hU
 go_wp2
 go_ret
 exact ⟨rfl,HBU.out⟩
theorem chk_fork (h:MaAt w D P) (hk:P[k]? =some (some p)) (at_ n prot:Int) (A:Option Addr) (m c:Nat) (hr:right9 7 ((k:Int) !=0) (at_ !=0) (n !=0) (prot !=0) (decide (0<m))=true):Calls Tryz.prog 88 #[.pointer (some ⟨D.X,0,none⟩),.agg #[.int .i64 7,.int .i64 (k:Nat),.int .i64 at_,.int .i64 n,.int .i64 prot,.slice A m c]] w fun e w'=>e=.returned (.int .i64 (if fullB (plP P)=true then 5 else 0))∧Below w.heap.size w w':=by
 have hh:=h.has hk
 have HFX:Hid ((fullB (plP P)=true→(if fullB (plP P)=true then (5:Int) else 0)=5)∧(¬fullB (plP P)=true→(if fullB (plP P)=true then (5:Int) else 0)=0)):=hJ ⟨fun h=>if_pos h,fun h=>if_neg h⟩
 obtain ⟨z,hz⟩:∃z:Int,(if fullB (plP P)=true then (5:Int) else 0)=z:=⟨_,rfl⟩
 rw [hz] at HFX ⊢
 clear hz
 have HR:=hJ (fun V:World=>mRight_any V 7 (k:Nat) at_ n prot A m c)
 rw [hr] at HR
 have HB0:=hJ (show Below w.heap.size w (w.alloc (.cells #[.int .i64 7,.int .i64 (k:Nat),.int .i64 at_,.int .i64 n,.int .i64 prot,.slice A m c] 47)) from jB.alloc jN _)
 have HC:Hid (∀W,Below (w.alloc (.cells #[.int .i64 7,.int .i64 (k:Nat),.int .i64 at_,.int .i64 n,.int .i64 prot,.slice A m c] 47)).heap.size (w.alloc (.cells #[.int .i64 7,.int .i64 (k:Nat),.int .i64 at_,.int .i64 n,.int .i64 prot,.slice A m c] 47)) W→_):=hJ fun W hb=>op_cells hb
 have hlb:w.heap.size<(w.alloc (.cells #[.int .i64 7,.int .i64 (k:Nat),.int .i64 at_,.int .i64 n,.int .i64 prot,.slice A m c] 47)).heap.size:=by simp
 clear hr
 go_enter Tryz.func88,Tryz.ntmps88
 go_wp2_with fail
 generalize w.alloc (.cells #[.int .i64 7,.int .i64 (k:Nat),.int .i64 at_,.int .i64 n,.int .i64 prot,.slice A m c] 47)=wa at *
 obtain ⟨bx,hbx⟩:∃bx,w.heap.size=bx:=⟨_,rfl⟩
 rw [hbx] at HC hlb ⊢
 refine (HR.out wa).mono ?_
 rintro e w1 ⟨rfl,hb1⟩
 obtain ⟨k0,k1,k2,k3,k4,k5⟩:=HC.out _ hb1
 have HB1:=hJ hb1
 have HB:=hJ (HB0.out.trans (hb1.mono HB0.out.size))
 have lb1:=lt_of_cell k0
 clear hb1 HR hbx
 have HM:=hJ (h.up HB.out)
 have lX:=HM.out.f.ltX
 have x9:=HM.out.f.c9
 have HH:Hid (∀V,Below w1.heap.size w1 V→Calls Tryz.prog 136 #[.pointer (some ⟨D.S,0,none⟩),.int .i64 (k:Nat)] V fun e w'=>e=.returned (.bool true)∧Below V.heap.size V w'):=hJ fun V hV=>by
  have:=npHas_any (HM.out.f.up hV) (k:Nat)
  rw [hh] at this
  exact this.mono fun e w' ⟨h1,h2⟩=>⟨h1,h2 ▸ Below.refl _ _⟩
 clear h hh
 go_upto_region 10 with (fail)
 refine wp_region_up (by kernel_rfl) (by kernel_rfl) ?_
 repeat (go_big_quiet_step (first|(go_at_call 136;exact Calls.up_of (HH.out _ (Up.h _)))))
 refine wpQuiet_nil ?_
 rintro _ ⟨g,rfl⟩
 go_upto_region 12 with (fail)
 refine wp_forget (fun V=>Below w1.heap.size w1 V) g.h ?_
 clear HH k0 k1 k2 k3 k4 k5 lb1 x9 lX
 rintro V hV
 have HBV:=hJ (HB.out.trans (hV.mono HB.out.size))
 have HV1:=hJ (HB1.out.trans (hV.mono HB1.out.size))
 obtain ⟨k0,k1,k2,k3,k4,k5⟩:=HC.out _ HV1.out
 have HMV:=hJ (HM.out.up hV)
 have lX:=HMV.out.f.ltX
 have x10:=HMV.out.f.c10
 obtain ⟨gq,hgq,lgq,hcq,_⟩:=HMV.out.f.qAt
 have q0:=hcq k (some p.X) (by rw [List.getElem?_map,hk];rfl)
 unfold MaD.qv at x10
 rw [hgq] at x10
 have lbV:=lt_of_cell k0
 have hkn:k<D.n:=by rw [←HMV.out.len];exact (jS.1 hk).1
 have hkI:(k:Int)<(D.n:Int):=by omega
 have hk0:(0:Int)≤(k:Int):=by omega
 simp only [Option.map_some] at q0
 have HPV:=hJ (HMV.out.get hk)
 clear hV hcq hgq
 refine wp_region_up (by kernel_rfl) (by kernel_rfl) ?_
 repeat (go_big_quiet_step (fail))
 refine wpQuiet_nil ?_
 rintro _ ⟨g2,rfl⟩
 have HG2:=hJ g2.h
 go_upto_region 13 with (fail)
 refine wp_forget (fun U=>Below V.heap.size V U) g2.h ?_
 clear k0 k1 k2 k3 k4 k5 lbV x10 lX q0 lgq HG2
 rintro U hU
 have HBU:=hJ (HBV.out.trans (hU.mono HBV.out.size))
 obtain ⟨k0,k1,k2,k3,k4,k5⟩:=HC.out _ (HV1.out.trans (hU.mono HV1.out.size))
 have HMU:=hJ (HMV.out.up hU)
 have HPU:=hJ (HPV.out.up hU)
 have lbU:=lt_of_cell k0
 clear hU
 have lX:=HMU.out.f.ltX
 have x9:=HMU.out.f.c9
 have c6:=HMU.out.f.cc 6 (by omega)
 rw [HMU.out.f.en] at c6
 have HL:Hid (∀V,Below U.heap.size U V→Calls Tryz.prog 52 #[.pointer (some ⟨D.S,0,none⟩)] V fun e w'=>∃A' c',e=.returned (.slice A' (pidsF (P.map Option.isSome)).length c')∧Below V.heap.size V w'):=hJ fun V hV=>(npList_any (HMU.out.f.up hV)).mono fun e w' ⟨A',c',he,hf⟩=>⟨A',c',he,hf.2⟩
 have hful:=full_pids P
 rw [HMU.out.len] at hful
 obtain ⟨N,hN⟩:∃N,(pidsF (P.map Option.isSome)).length=N:=⟨_,rfl⟩
 rw [hN] at HL hful
 have hnb:D.n≤64:=by have:=HMU.out.f.good.2.1;have:=HMU.out.f.en;omega
 have HBE:Hid (∀V,Below U.heap.size U V→Below w.heap.size w V):=hJ fun V hV=>HBU.out.trans (hV.mono HBU.out.size)
 by_cases hfu:fullB (plP P)=true
 · have hd:(N==D.n)=true:=beq_iff_eq.2 (hful.2 hfu)
   have hd2:((N:Int)==(D.n:Int))=true:=beq_iff_eq.2 (by rw [hful.2 hfu])
   obtain rfl:z=5:=HFX.out.1 hfu
   clear hful hN HFX hfu
   go_upto_region 24 with (fail)
   go_region_held3 (fun V=>V.cell? ⟨D.X,9,none⟩=some (.pointer (some ⟨D.S,0,none⟩))∧V.cell? ⟨D.X,6,none⟩=some (.int .i64 (D.n:Nat))) (first|exact ⟨x9,c6⟩|exact KS.out|go_keep)
    ((go_at_call 52;(with_reducible refine (HL.out _ jB.drew).mono ?_);rintro e w3 ⟨A3,c3,rfl,hb3⟩;have KS:Hid (w3.cell? ⟨D.X,9,none⟩=some (.pointer (some ⟨D.S,0,none⟩))∧w3.cell? ⟨D.X,6,none⟩=some (.int .i64 (D.n:Nat))):=hJ ⟨(hb3.cell (p:=⟨D.X,9,none⟩) lX).trans x9,(hb3.cell (p:=⟨D.X,6,none⟩) lX).trans c6⟩;have HB3:=hJ hb3;clear hb3))
   go_wp2
   go_ret
   exact ⟨rfl,HBE.out _ ((Below.refl U.heap.size U).drew.trans HB3.out)⟩
 · have hne:¬N=D.n:=fun e=>hfu (hful.1 e)
   have hd:(N==D.n)=false:=beq_eq_false_iff_ne.2 hne
   have hd2:((N:Int)==(D.n:Int))=false:=beq_eq_false_iff_ne.2 (by omega)
   obtain rfl:z=0:=HFX.out.2 hfu
   clear hful hN hne HFX hfu
   go_upto_region 24 with (fail)
   go_region_held3 (fun V=>V.cell? ⟨D.X,9,none⟩=some (.pointer (some ⟨D.S,0,none⟩))∧V.cell? ⟨D.X,6,none⟩=some (.int .i64 (D.n:Nat))) (first|exact ⟨x9,c6⟩|exact KS.out|go_keep)
    ((go_at_call 52;(with_reducible refine (HL.out _ jB.drew).mono ?_);rintro e w3 ⟨A3,c3,rfl,hb3⟩;have KS:Hid (w3.cell? ⟨D.X,9,none⟩=some (.pointer (some ⟨D.S,0,none⟩))∧w3.cell? ⟨D.X,6,none⟩=some (.int .i64 (D.n:Nat))):=hJ ⟨(hb3.cell (p:=⟨D.X,9,none⟩) lX).trans x9,(hb3.cell (p:=⟨D.X,6,none⟩) lX).trans c6⟩;have HB3:=hJ hb3;clear hb3))
   go_wp2
   go_ret
   exact ⟨rfl,HBE.out _ ((Below.refl U.heap.size U).drew.trans HB3.out)⟩
end
end Go.Proofs.YtlhfjaagkgengaaGreat
