/- The walk of Pool.Take when all frames are used. -/
import Derived.Test.YtmipngefpedfpaaFD
namespace Go.Proofs.Ytmipngefpedfpaa
open Go.RowKit Go.Maps
set_option linter.unusedVariables false
set_option linter.unusedSimpArgs false

section
variable {w : World} {P B M n : Nat} {F : Nat → Fr} {h : Nat} {g : Int → Option Nat} {c : Nat} {key : Int}

set_option maxRecDepth 100000 in
set_option maxHeartbeats 1000000 in
theorem Take_full (p : PoolAt w P B M n F h g c) (hk : (Lit.int .i64 key).wf = true) (hg : (g key).isSome = false) (hj : freeAt F n = -1) (hlo : loose F n = false) :
    Calls Try.prog 45 #[.pointer (some ⟨P, 0, none⟩), .int .i64 key] w (TakePost P B M n (takeR n F h g key) w) := by
  have HR : Hid (takeR n F h g key = ⟨0, Fr.zero, false, 10, F, h, g⟩) := by unfold takeR; rw [if_neg (by rw [hg]; exact Bool.false_ne_true), hj, if_neg (by omega), if_neg (by rw [hlo]; exact Bool.false_ne_true)]; rfl
  have HP := Lib.hid p
  have p0 : PoolAt (w.alloc (.cells #[.int .i64 0, .bool false, .bool false, .bool false, .int .i64 0] 97)) P B M n F h g c := p.up ((Below.refl _ _).alloc (Nat.le_refl _) _)
  have HF := Lib.hid (Find_any p0 hk)
  have HI := Lib.hid (IndexFunc_any 51 (fun f => !f.used) cf1 (fun f w => notUsed_any f w) _ B n F p.most p0.fr)
  have HJ := Lib.hid hj
  have hn := p.most
  have l0 := p0.l0
  have ltw := p.ltP
  have ltb := p.ltB
  have HP0 := Lib.hid p0
  clear p p0 hj
  go_enter Try.func45, Try.ntmps45
  go_wp2_with fail
  refine HF.out.mono ?_
  rintro e w1 ⟨rfl, rfl⟩
  unfold findV
  rw [hg]
  go_wp2_with fail
  refine HI.out.mono ?_
  rintro e w1 ⟨rfl, hb1⟩
  rw [show first (fun i => !(F i).used) n = -1 from HJ.out]
  have p1 := HP0.out.up hb1
  have r1 : ROut w1 w.heap.size Fr.zero := (hb1.block _ (by simp)).trans (heap_alloc_new w _)
  have o1 : Off (PB P B M) w w1 := (Off.of_below ((Below.refl _ _).alloc (Nat.le_refl _) _)).step hb1
  have l0' := p1.l0
  have HC := Lib.hid (ContainsFunc_any 53 (fun f => f.pins == 0) cf2 (fun f w => noPins_any f w) w1 B n F hn p1.fr)
  have HP1 := Lib.hid p1
  have HR1 := Lib.hid r1
  have HO1 := Lib.hid o1
  clear p1 r1 o1 hb1 l0
  go_wp2_with fail
  refine HC.out.mono ?_
  rintro e w2 ⟨rfl, hb2⟩
  rw [show decide (0 ≤ first (fun i => (F i).pins == 0) n) = loose F n from rfl, hlo]
  have p2 := HP1.out.up hb2
  have r2 : ROut w2 w.heap.size Fr.zero := (hb2.block _ HR1.out.lt).trans HR1.out
  have o2 : Off (PB P B M) w w2 := HO1.out.step hb2
  clear HC hb2 l0'
  obtain ⟨d0, d1, d2, d3, d4⟩ := r2.cells
  have y0 := r2.frozen 0
  have y1 := r2.frozen 1
  have y2 := r2.frozen 2
  have y3 := r2.frozen 3
  have y4 := r2.frozen 4
  have HP2 := Lib.hid p2
  have HO2 := Lib.hid o2
  clear p2 r2 o2
  simp only [Fr.zero] at d0 d1 d2 d3 d4
  go_wp2
  refine bodyPost_ret (v := .tuple #[.int .i64 0, .agg #[.int .i64 0, .bool false, .bool false, .bool false, .int .i64 0], .bool false, .int .i64 10]) (by simp [results, Try.results45, go_sem, d0, d1, d2, d3, d4]) rfl ?_
  rw [HR.out]
  refine take_done HP2.out HO2.out (R := w.heap.size) (by omega) (by omega) (by have := HP.out.ltM; omega) (Nat.le_refl _) rfl ?_
  exact off_out _ _ _ _ _ _ _

set_option maxRecDepth 100000 in
set_option maxHeartbeats 2000000 in
theorem Take_give {r : Nat} {F' : Nat → Fr} (p : PoolAt w P B M n F h g c) (hk : (Lit.int .i64 key).wf = true) (hg : (g key).isSome = false) (hj : freeAt F n = -1) (hlo : loose F n = true)
    (hs : sw n (2 * n + 1) h F = ((r : Int), F')) (hrn : r < n) (hcl : Cleared F F') :
    Calls Try.prog 45 #[.pointer (some ⟨P, 0, none⟩), .int .i64 key] w (TakePost P B M n (takeR n F h g key) w) := by
  have HR : Hid (takeR n F h g key = ⟨r, F' r, true, 0, putF F' r (Fr.new key), (r + 1) % n, upd (upd g (F' r).key none) key (some r)⟩) := by unfold takeR; rw [if_neg (by rw [hg]; exact Bool.false_ne_true), hj, if_neg (by omega), if_pos hlo, hs]; rfl
  have HS := Lib.hid hs
  have HCL := Lib.hid hcl
  clear hs hcl
  have HP := Lib.hid p
  have p0 : PoolAt (w.alloc (.cells #[.int .i64 0, .bool false, .bool false, .bool false, .int .i64 0] 97)) P B M n F h g c := p.up ((Below.refl _ _).alloc (Nat.le_refl _) _)
  have HF := Lib.hid (Find_any p0 hk)
  have HI := Lib.hid (IndexFunc_any 51 (fun f => !f.used) cf1 (fun f w => notUsed_any f w) _ B n F p.most p0.fr)
  have HJ := Lib.hid hj
  have hn := p.most
  have l0 := p0.l0
  have ltw := p.ltP
  have ltb := p.ltB
  have HP0 := Lib.hid p0
  clear p p0 hj
  go_enter Try.func45, Try.ntmps45
  go_wp2_with fail
  refine HF.out.mono ?_
  rintro e w1 ⟨rfl, rfl⟩
  unfold findV
  rw [hg]
  go_wp2_with fail
  refine HI.out.mono ?_
  rintro e w1 ⟨rfl, hb1⟩
  rw [show first (fun i => !(F i).used) n = -1 from HJ.out]
  have p1 := HP0.out.up hb1
  have r1 : ROut w1 w.heap.size Fr.zero := (hb1.block _ (by simp)).trans (heap_alloc_new w _)
  have o1 : Off (PB P B M) w w1 := (Off.of_below ((Below.refl _ _).alloc (Nat.le_refl _) _)).step hb1
  have l0' := p1.l0
  have HC := Lib.hid (ContainsFunc_any 53 (fun f => f.pins == 0) cf2 (fun f w => noPins_any f w) w1 B n F hn p1.fr)
  have HP1 := Lib.hid p1
  have HR1 := Lib.hid r1
  have HO1 := Lib.hid o1
  clear p1 r1 o1 hb1 l0
  go_wp2_with fail
  refine HC.out.mono ?_
  rintro e w2 ⟨rfl, hb2⟩
  rw [show decide (0 ≤ first (fun i => (F i).pins == 0) n) = loose F n from rfl, hlo]
  have p2 := HP1.out.up hb2
  have r2 : ROut w2 w.heap.size Fr.zero := (hb2.block _ HR1.out.lt).trans HR1.out
  have o2 : Off (PB P B M) w w2 := HO1.out.step hb2
  clear HC hb2 l0'
  have l0 := p2.l0
  have l2 := p2.l2
  have HP2 := Lib.hid p2
  have HR2 := Lib.hid r2
  have HO2 := Lib.hid o2
  clear p2 r2 o2
  go_upto_region 8 with (fail)
  go_still_tail 8, (by kernel_rfl)
  change wpList _ _ _ _ _ w2.drew
  go_wp2_with fail
  refine (sweep_any w2.drew B n h F hn HP2.out.pos HP2.out.hand HP2.out.drew.fr HP2.out.drew.fz).mono ?_
  rintro e w3 ⟨rfl, hfr, hfz, ho⟩
  rw [HS.out] at hfr ⊢
  simp only at hfr ⊢
  have hkw : ∀ i, i < n → (Lit.int .i64 (F' i).key).wf = true := fun i hi => by rw [(HCL.out i).1]; exact HP2.out.kw i hi
  have HKW := Lib.hid (hkw r hrn)
  have p3 := HP2.out.drew.frames hfr hfz ho hkw
  have hRB : w.heap.size ≠ B := by omega
  have r3 : ROut w3 w.heap.size Fr.zero := (ho.block _ HR2.out.lt hRB).trans HR2.out
  have o3 : Off (PB P B M) w w3 := HO2.out.drew.trans (ho.mono fun k e => .inr (.inl e))
  clear hfr hfz ho hkw HF HI HJ HP1 HR1 HO1 HP2 HR2 HO2 l0 l2
  have l0 := p3.l0
  obtain ⟨c0, c1, c2, c3, c4⟩ := p3.fr r hrn
  obtain ⟨d0, d1, d2, d3, d4⟩ := r3.cells
  have y0 := r3.frozen 0
  have y1 := r3.frozen 1
  have y2 := r3.frozen 2
  have y3 := r3.frozen 3
  have y4 := r3.frozen 4
  have HX : Hid (∀ W, W = (((((w3.setCell ⟨w.heap.size, 0, none⟩ (.int .i64 (F' r).key)).setCell ⟨w.heap.size, 1, none⟩ (.bool (F' r).used)).setCell ⟨w.heap.size, 2, none⟩ (.bool (F' r).ref)).setCell ⟨w.heap.size, 3, none⟩ (.bool (F' r).dirty)).setCell ⟨w.heap.size, 4, none⟩ (.int .i64 (F' r).pins)) → PoolAt W P B M n F' h g c ∧ ROut W w.heap.size (F' r) ∧ Off (PB P B M) w W) := by
    rintro W rfl
    have h1 := off_out w3 w.heap.size (.int .i64 (F' r).key) (.bool (F' r).used) (.bool (F' r).ref) (.bool (F' r).dirty) (.int .i64 (F' r).pins)
    refine ⟨p3.off h1 (fun e => by have := HP.out.ltP; omega) (fun e => hRB e.symm) (fun e => by have := HP.out.ltM; omega), ?_, o3.late h1 (fun i hi e => by omega)⟩
    unfold ROut at r3 ⊢
    simp [World.setCell, Array.getElem?_modify, r3]
  have HP3 := Lib.hid p3
  clear p3 r3 o3
  simp only [Fr.zero] at d0 d1 d2 d3 d4
  go_upto_region 10 with (fail)
  refine wp_forget (fun W => PoolAt W P B M n F' h g c ∧ ROut W w.heap.size (F' r) ∧ Off (PB P B M) w W) (HX.out _ rfl) ?_
  clear HX HP3 c0 c1 c2 c3 c4 d0 d1 d2 d3 d4 y0 y1 y2 y3 y4 l0 w3
  rintro w4 ⟨p4, r4, o4⟩
  obtain ⟨d0, d1, d2, d3, d4⟩ := r4.cells
  have l1 := p4.l1
  obtain ⟨k1, hk1⟩ := name_key HKW.out
  have HD := Lib.hid (p4.drew.mp.del (t := 93) nameKeyed Try.underlying93 hk1 0)
  have HP4 := Lib.hid p4
  have HR4 := Lib.hid r4
  have HO4 := Lib.hid o4
  clear p4 r4 o4 hk1 d1 d2 d3 d4
  go_still_tail 7, (by kernel_rfl)
  obtain ⟨w5, hrun, hm, ho⟩ := HD.out
  rw [keyF_del] at hm
  have p5 := HP4.out.drew.mapped hm ho
  have r5 : ROut w5 w.heap.size (F' r) := (ho.block _ HR4.out.lt (fun e => by have := HP.out.ltM; omega)).trans HR4.out
  have o5 : Off (PB P B M) w w5 := HO4.out.drew.trans (ho.mono fun k e => .inr (.inr e))
  refine wpList_delete_run rfl _ _ _ _ rfl _ _ rfl rfl hrun ?_
  clear hrun hm ho HD HP4 HR4 HO4 l1 d0
  generalize (if (keyF g (.agg #[.int .i64 (F' r).key])).isSome then c - 1 else c) = c5 at p5
  have l0 := p5.l0
  have l2 := p5.l2
  have z := p5.lz 2
  have hm : ((r : Int) + 1) % (n : Int) = (((r + 1) % n : Nat) : Int) := by rw [Int.natCast_emod]; simp
  have HM := Lib.hid hm
  have hml : (r + 1) % n < n := Nat.mod_lt _ p5.pos
  have HX : Hid (∀ W, W = w5.setCell ⟨P, 2, none⟩ (.int .i64 (((r : Int) + 1) % (n : Int))) → PoolAt W P B M n F' ((r + 1) % n) (upd g (F' r).key none) c5 ∧ ROut W w.heap.size (F' r) ∧ Off (PB P B M) w W) := by
    rintro W rfl
    rw [hm]
    refine ⟨p5.moved hml, ?_, o5.setCell (.inl rfl) _⟩
    unfold ROut at r5 ⊢
    rw [Below.heap_setCell _ _ _ _ (by show w.heap.size ≠ P; omega)]
    exact r5
  have hpos := p5.pos
  clear p5 r5 o5 hm
  go_upto_region 12 with (fail)
  refine wp_forget (fun W => PoolAt W P B M n F' ((r + 1) % n) (upd g (F' r).key none) c5 ∧ ROut W w.heap.size (F' r) ∧ Off (PB P B M) w W) (HX.out _ rfl) ?_
  clear HX l0 l2 z w5
  rintro w6 ⟨p6, r6, o6⟩
  obtain ⟨c0, c1, c2, c3, c4⟩ := p6.fr r hrn
  have z0 := p6.fz (r * 5)
  have z1 := p6.fz (r * 5 + 1)
  have z2 := p6.fz (r * 5 + 2)
  have z3 := p6.fz (r * 5 + 3)
  have z4 := p6.fz (r * 5 + 4)
  have l0' := p6.l0
  have HX : Hid (∀ W, W = (((((w6.setCell ⟨B, r * 5, none⟩ (.int .i64 key)).setCell ⟨B, r * 5 + 1, none⟩ (.bool true)).setCell ⟨B, r * 5 + 2, none⟩ (.bool true)).setCell ⟨B, r * 5 + 3, none⟩ (.bool false)).setCell ⟨B, r * 5 + 4, none⟩ (.int .i64 0)) → PoolAt W P B M n (putF F' r (Fr.new key)) ((r + 1) % n) (upd g (F' r).key none) c5 ∧ ROut W w.heap.size (F' r) ∧ Off (PB P B M) w W) := by
    rintro W rfl
    have hB : ∀ o, PB P B M (⟨B, o, none⟩ : Addr).block := fun o => .inr (.inl rfl)
    refine ⟨p6.put (f := Fr.new key) hrn hk, ?_, ((((o6.setCell (hB _) _).setCell (hB _) _).setCell (hB _) _).setCell (hB _) _).setCell (hB _) _⟩
    unfold ROut at r6 ⊢
    rw [Below.heap_setCell _ _ _ _ hRB, Below.heap_setCell _ _ _ _ hRB, Below.heap_setCell _ _ _ _ hRB, Below.heap_setCell _ _ _ _ hRB, Below.heap_setCell _ _ _ _ hRB]
    exact r6
  clear p6 r6 o6
  go_upto_region 13 with (fail)
  refine wp_forget (fun W => PoolAt W P B M n (putF F' r (Fr.new key)) ((r + 1) % n) (upd g (F' r).key none) c5 ∧ ROut W w.heap.size (F' r) ∧ Off (PB P B M) w W) (HX.out _ rfl) ?_
  clear HX c0 c1 c2 c3 c4 z0 z1 z2 z3 z4 l0' w6
  rintro w7 ⟨p7, r7, o7⟩
  obtain ⟨l, hl⟩ := name_key hk
  obtain ⟨w8, hrun, hmm, ho⟩ := p7.mp.put (val := .int .i64 r) nameKeyed Try.underlying93 hl
  rw [keyF_put] at hmm
  have l1 := p7.l1
  have HQ : Hid (PoolAt w8 P B M n (putF F' r (Fr.new key)) ((r + 1) % n) (upd (upd g (F' r).key none) key (some r)) _ ∧ ROut w8 w.heap.size (F' r) ∧ Off (PB P B M) w w8) :=
    ⟨p7.mapped hmm ho, (ho.block _ r7.lt (fun e => by have := HP.out.ltM; omega)).trans r7, o7.trans (ho.mono fun k e => .inr (.inr e))⟩
  clear p7 r7 o7 hmm ho hl
  go_wp2
  obtain ⟨p3, r3, o3⟩ := HQ.out
  obtain ⟨d0, d1, d2, d3, d4⟩ := r3.cells
  have y0 := r3.frozen 0
  have y1 := r3.frozen 1
  have y2 := r3.frozen 2
  have y3 := r3.frozen 3
  have y4 := r3.frozen 4
  have HP3 := Lib.hid p3
  have HO3 := Lib.hid o3
  clear p3 r3 o3 HQ hrun
  go_region
  go_wp2
  refine bodyPost_ret (v := .tuple #[.int .i64 r, .agg #[.int .i64 (F' r).key, .bool (F' r).used, .bool (F' r).ref, .bool (F' r).dirty, .int .i64 (F' r).pins], .bool true, .int .i64 0]) (by simp [results, Try.results45, go_sem, d0, d1, d2, d3, d4]) rfl ?_
  rw [HR.out]
  refine take_done HP3.out HO3.out (R := w.heap.size) (by omega) (by omega) (by have := HP.out.ltM; omega) (Nat.le_refl _) rfl ?_
  exact (off_out _ _ _ _ _ _ _).drew
end
end Go.Proofs.Ytmipngefpedfpaa
