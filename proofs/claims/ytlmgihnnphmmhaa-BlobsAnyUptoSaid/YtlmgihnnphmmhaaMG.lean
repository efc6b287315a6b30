/- blobs: a store in memory; Table, fill. blobs: Left. blobs: shaped. blobs: New. blobs: next, Left. -/
import Derived.Test.YtlmgihnnphmmhaaME
import Derived.Test.YtlmgihnnphmmhaaMF
import Derived.Deep.RegionLaw
namespace Go.Proofs.Ytlmgihnnphmmhaa
open Go.RowKit
set_option linter.unusedVariables false
set_option linter.unusedSimpArgs false

structure StS where
  c : Cfg
  d : DkS
  t : TbS
  op : Option Nat
  us : Nat
structure StOk (s : StS) : Prop where
  ok : s.c.Ok
  dS : s.d.S = s.c.sectors
  dz : s.d.z = s.c.z
  tn : s.t.n = s.c.segs
  opn : ∀ k, s.op = some k → ∃ u, s.t.ent k = some (1, u)
  one : ∀ k u, s.t.ent k = some (1, u) → s.op = some k
  usl : s.us ≤ s.c.seg
  us0 : s.op = none → s.us = 0
  uk : ∀ k u, s.op = some k → s.t.ent k = some (1, u) → u ≤ s.us
structure StM (B : Nat) (w : World) (P D T M : Nat) (O : Nat → Prop) (s : StS) : Prop where
  bx : BoxC w P s.c
  c9 : w.cell? ⟨P, 9, none⟩ = some (.pointer (some ⟨D, 0, none⟩))
  c10 : w.cell? ⟨P, 10, none⟩ = some (.pointer (some ⟨T, 0, none⟩))
  c11 : w.cell? ⟨P, 11, none⟩ = some (.int .i64 (kOf s.op))
  c12 : w.cell? ⟨P, 12, none⟩ = some (.int .i64 (s.us : Nat))
  zf : ∀ j, w.frozen? ⟨P, j, none⟩ = false
  dk : DkAt B w D s.d O
  tb : TbAt B w T M s.t
  lo : B ≤ P
  dis : ¬ O P ∧ ¬ O T ∧ ¬ O M ∧ P ≠ T ∧ P ≠ M
structure StAt (B : Nat) (w : World) (P D T M : Nat) (O : Nat → Prop) (s : StS) : Prop extends StM B w P D T M O s where
  ok : StOk s
section
variable {B : Nat} {w w' : World} {P D T M : Nat} {O S : Nat → Prop} {s : StS}
theorem StM.off (h : StM B w P D T M O s) (ho : Off S w w') (hP : ¬ S P) (hT : ¬ S T) (hM : ¬ S M) (hO : ∀ g, O g → ¬ S g) : StM B w' P D T M O s := by
  have lP := lt_of_cell h.c9
  have c : ∀ j, w'.cell? ⟨P, j, none⟩ = w.cell? ⟨P, j, none⟩ := fun j => ho.cell (p := ⟨P, j, none⟩) lP hP
  exact ⟨h.bx.up c, (c 9).trans h.c9, (c 10).trans h.c10, (c 11).trans h.c11, (c 12).trans h.c12, fun j => (ho.frozen (p := ⟨P, j, none⟩) lP hP).trans (h.zf j), h.dk.off ho hO, h.tb.off ho hT hM, h.lo, h.dis⟩
theorem StAt.off (h : StAt B w P D T M O s) (ho : Off S w w') (hP : ¬ S P) (hT : ¬ S T) (hM : ¬ S M) (hO : ∀ g, O g → ¬ S g) : StAt B w' P D T M O s := ⟨h.toStM.off ho hP hT hM hO, h.ok⟩
theorem StAt.up (h : StAt B w P D T M O s) (hb : Below w.heap.size w w') : StAt B w' P D T M O s := h.off (S := fun _ => False) (Off.of_below hb) id id id (fun _ _ => id)
theorem StAt.lts (h : StAt B w P D T M O s) : P < w.heap.size ∧ T < w.heap.size ∧ M < w.heap.size ∧ (∀ g, O g → B ≤ g ∧ g < w.heap.size) := by
  obtain ⟨l1, l2, l3⟩ := h.tb.lt
  obtain ⟨_, _, _, _, _, _, _, _, h3⟩ := h.dk
  exact ⟨lt_of_cell h.c9, l1, l2, h3⟩
set_option maxHeartbeats 1000000 in
theorem stTable_any (h : StAt B w P D T M O s) : Calls Try.prog 18 #[.pointer (some ⟨P, 0, none⟩)] w fun e w' => e = .returned (.pointer (some ⟨T, 0, none⟩)) ∧ w' = w := by
  have c10 := h.c10
  clear h
  go_enter Try.func18, Try.ntmps18
  go_wp2
  go_ret
  exact ⟨rfl, rfl⟩
/-- The open segment is full now. -/
def fillT (t : TbS) : Option Nat → TbS
  | some k => t.setE k (2, t.us k)
  | none => t
def StS.fill (s : StS) : StS := ⟨s.c, s.d, fillT s.t s.op, none, 0⟩
theorem StOk.fill (h : StOk s) : StOk s.fill := by
  refine ⟨h.ok, h.dS, h.dz, ?_, (fun k hk => by cases hk), fun k u hk => ?_, Nat.zero_le _, (fun _ => rfl), fun k u hk => by cases hk⟩
  · show (fillT s.t s.op).n = _
    cases s.op <;> exact h.tn
  · have hk' : (fillT s.t s.op).ent k = some (1, u) := hk
    cases hop : s.op with
    | none =>
      rw [hop] at hk'
      have := h.one k u hk'
      rw [hop] at this
      cases this
    | some k0 =>
      rw [hop] at hk'
      simp only [fillT, TbS.setE] at hk'
      split at hk'
      · cases hk'
      · rename_i hne
        have := h.one k u hk'
        rw [hop] at this
        cases this
        exact absurd rfl hne
/-- Two of the store's numbers are laid anew. -/
theorem StM.set2 {s' : StS} (h : StM B w P D T M O s) (hc : s'.c = s.c) (hd : s'.d = s.d) (ht : s'.t = s.t) (hok : StOk s') : StAt B ((w.setCell ⟨P, 11, none⟩ (.int .i64 (kOf s'.op))).setCell ⟨P, 12, none⟩ (.int .i64 (s'.us : Nat))) P D T M O s' := by
  have ho : Off (fun g => g = P) w ((w.setCell ⟨P, 11, none⟩ (.int .i64 (kOf s'.op))).setCell ⟨P, 12, none⟩ (.int .i64 (s'.us : Nat))) := ((Off.refl (fun g => g = P) w).setCell (p := ⟨P, 11, none⟩) rfl _).setCell (p := ⟨P, 12, none⟩) rfl _
  have cn : ∀ j, j ≠ 11 → j ≠ 12 → ((w.setCell ⟨P, 11, none⟩ (.int .i64 (kOf s'.op))).setCell ⟨P, 12, none⟩ (.int .i64 (s'.us : Nat))).cell? ⟨P, j, none⟩ = w.cell? ⟨P, j, none⟩ := fun j h1 h2 =>
    (World.cell?_setCell_other _ _ _ _ (fun e => h2 (by injection e with e1 e2; exact e2.symm))).trans (World.cell?_setCell_other _ _ _ _ (fun e => h1 (by injection e with e1 e2; exact e2.symm)))
  have n1 : (⟨P, 12, none⟩ : Addr) ≠ ⟨P, 11, none⟩ := fun e => by injection e with e1 e2; omega
  obtain ⟨q0, q1, q2, q3, q4, q5, q6, q7, q8⟩ := h.bx
  refine ⟨⟨?_, (cn 9 (by omega) (by omega)).trans h.c9, (cn 10 (by omega) (by omega)).trans h.c10, ?_, ?_, fun j => by rw [World.frozen?_setCell, World.frozen?_setCell]; exact h.zf j, ?_, ?_, h.lo, h.dis⟩, hok⟩
  · rw [hc]
    exact ⟨(cn 0 (by omega) (by omega)).trans q0, (cn 1 (by omega) (by omega)).trans q1, (cn 2 (by omega) (by omega)).trans q2, (cn 3 (by omega) (by omega)).trans q3, (cn 4 (by omega) (by omega)).trans q4, (cn 5 (by omega) (by omega)).trans q5, (cn 6 (by omega) (by omega)).trans q6, (cn 7 (by omega) (by omega)).trans q7, (cn 8 (by omega) (by omega)).trans q8⟩
  · rw [World.cell?_setCell_other _ _ _ _ n1]
    exact World.cell?_setCell_same _ _ _ h.c11
  · exact World.cell?_setCell_same _ _ _ ((World.cell?_setCell_other _ _ _ _ n1.symm).trans h.c12)
  · rw [hd]
    exact h.dk.off ho (fun g hg e => h.dis.1 (e ▸ hg))
  · rw [ht]
    exact h.tb.off ho (fun e => h.dis.2.2.2.1 e.symm) (fun e => h.dis.2.2.2.2 e.symm)
def FiPost (B : Nat) (w : World) (P D T M : Nat) (O : Nat → Prop) (s : StS) (e : Ending) (w' : World) : Prop := e = .returned (.tuple #[]) ∧ StAt B w' P D T M O s.fill ∧ Off (fun g => g = P ∨ g = M) w w'
set_option maxRecDepth 100000 in
set_option maxHeartbeats 2000000 in
theorem stFill_any (h : StAt B w P D T M O s) : Calls Try.prog 48 #[.pointer (some ⟨P, 0, none⟩)] w (FiPost B w P D T M O s) := by
  have c10 := h.c10
  have c11 := h.c11
  have z11 := h.zf 11
  have z12 := h.zf 12
  have H := Lib.hid h
  cases hop : s.op with
  | none =>
    rw [hop] at c11
    unfold kOf at c11
    have HF : Hid (StAt B ((w.setCell ⟨P, 11, none⟩ (.int .i64 (-1))).setCell ⟨P, 12, none⟩ (.int .i64 0)) P D T M O s.fill) := h.toStM.set2 (s' := s.fill) rfl rfl (by show fillT s.t s.op = s.t; rw [hop]; rfl) h.ok.fill
    have HO : Hid (Off (fun g => g = P ∨ g = M) w ((w.setCell ⟨P, 11, none⟩ (.int .i64 (-1))).setCell ⟨P, 12, none⟩ (.int .i64 0))) := ((Off.refl _ w).setCell (p := ⟨P, 11, none⟩) (.inl rfl) _).setCell (p := ⟨P, 12, none⟩) (.inl rfl) _
    have c12 := h.c12
    clear h hop
    go_enter Try.func48, Try.ntmps48
    go_wp2
    go_end0
    exact ⟨rfl, HF.out, HO.out⟩
  | some k =>
    obtain ⟨u, hu⟩ := h.ok.opn k hop
    have hkn := (h.tb.ok k _ hu).1
    rw [hop] at c11
    unfold kOf at c11
    simp only at c11
    have HFL : Hid (Calls Try.prog 81 #[.pointer (some ⟨T, 0, none⟩), .int .i64 (k : Nat)] w.drew (FlPost B w.drew T M s.t k u)) := tbFill_any (h.tb.up (Below.refl _ _).drew) hkn hu
    have hus : s.t.us k = u := by unfold TbS.us; rw [hu]; rfl
    have HST : Hid (s.fill.t = s.t.setE k (2, u)) := by show fillT s.t s.op = _; rw [hop]; show s.t.setE k (2, s.t.us k) = _; rw [hus]
    have HOK := Lib.hid h.ok.fill
    have hk0 : (0 : Int) ≤ (k : Int) := by omega
    clear h hop hu hus hkn
    go_enter Try.func48, Try.ntmps48
    go_upto_region 1 with (fail)
    go_still_tail 8, (by kernel_rfl)
    change wpList _ _ _ _ _ w.drew
    go_wp2_with fail
    refine HFL.out.mono ?_
    rintro _ w2 ⟨rfl, h2, h3⟩
    have H2 : Hid (StM B w2 P D T M O ⟨s.c, s.d, s.fill.t, s.op, s.us⟩) := by
      have h4 : Off (fun g => g = M) w w2 := (Off.refl _ w).drew.trans h3
      obtain ⟨l1, l2, l3, l4⟩ := H.out.lts
      have hPM : ¬ P = M := H.out.dis.2.2.2.2
      have c : ∀ j, w2.cell? ⟨P, j, none⟩ = w.cell? ⟨P, j, none⟩ := fun j => h4.cell (p := ⟨P, j, none⟩) l1 hPM
      refine ⟨H.out.bx.up c, (c 9).trans H.out.c9, (c 10).trans H.out.c10, (c 11).trans H.out.c11, (c 12).trans H.out.c12, fun j => (h4.frozen (p := ⟨P, j, none⟩) l1 hPM).trans (H.out.zf j), H.out.dk.off h4 (fun g hg e => H.out.dis.2.2.1 (e ▸ hg)), ?_, H.out.lo, H.out.dis⟩
      show TbAt B w2 T M s.fill.t
      rw [HST.out]
      exact h2
    have HO : Hid (Off (fun g => g = P ∨ g = M) w w2) := ((Off.refl _ w).drew.trans h3).mono fun g e => .inr e
    have c11' := H2.out.c11
    have c12' := H2.out.c12
    have z11' := H2.out.zf 11
    have z12' := H2.out.zf 12
    have HF : Hid (StAt B ((w2.setCell ⟨P, 11, none⟩ (.int .i64 (-1))).setCell ⟨P, 12, none⟩ (.int .i64 0)) P D T M O s.fill) := H2.out.set2 (s' := s.fill) rfl rfl rfl HOK.out
    have HO2 : Hid (Off (fun g => g = P ∨ g = M) w ((w2.setCell ⟨P, 11, none⟩ (.int .i64 (-1))).setCell ⟨P, 12, none⟩ (.int .i64 0))) := (HO.out.setCell (p := ⟨P, 11, none⟩) (.inl rfl) _).setCell (p := ⟨P, 12, none⟩) (.inl rfl) _
    clear h2 h3 HFL
    go_wp2
    go_end0
    exact ⟨rfl, HF.out, HO2.out⟩
end
end Go.Proofs.Ytlmgihnnphmmhaa
namespace Go.Proofs.Ytlmgihnnphmmhaa
open Go.RowKit
set_option linter.unusedVariables false
set_option linter.unusedSimpArgs false

def StS.left (s : StS) : Nat := s.t.cnt 0 s.t.n * s.c.seg + match s.op with
  | some _ => s.c.seg - s.us
  | none => 0
section
variable {B : Nat} {w w' : World} {P D T M : Nat} {O S : Nat → Prop} {s : StS}
set_option maxRecDepth 100000 in
set_option maxHeartbeats 2000000 in
theorem stLeft_any (h : StAt B w P D T M O s) : Calls Try.prog 28 #[.pointer (some ⟨P, 0, none⟩)] w fun e w' => e = .returned (.int .i64 (s.left : Nat)) ∧ Below w.heap.size w w' := by
  have c10 := h.c10
  have c11 := h.c11
  have c12 := h.c12
  obtain ⟨b0, b1, b2, b3, b4, b5, b6, b7, b8⟩ := h.bx
  have hseg := h.ok.ok.h3
  have husl := h.ok.usl
  have hbn := h.tb.bn
  have hcl := s.t.cnt_le 0 s.t.n
  obtain ⟨l1, l2, l3, l4⟩ := h.lts
  have HC : Hid (∀ g : Up w, Calls Try.prog 22 #[.pointer (some ⟨T, 0, none⟩), .int .i64 0] g.world fun e w' => e = .returned (.int .i64 (s.t.cnt 0 s.t.n : Nat)) ∧ Below g.world.heap.size g.world w') := fun g => tbCount_any (h.up g.h).tb 0
  obtain ⟨m, hm⟩ : ∃ m, m = s.t.cnt 0 s.t.n * s.c.seg := ⟨_, rfl⟩
  have hml : m ≤ 65536 * 4096 := by rw [hm]; exact Nat.mul_le_mul (by omega) hseg.2
  have e1 : ((s.t.cnt 0 s.t.n : Nat) : Int) * (s.c.seg : Int) = (m : Int) := by rw [hm]; simp
  have w1 : IntKind.i64.wrap (m : Int) = (m : Int) := IntWalk.i64_in _ (by omega)
  have HLF : Hid (s.left = m + match s.op with | some _ => s.c.seg - s.us | none => 0) := by unfold StS.left; rw [← hm]; exact rfl
  have H := Lib.hid h
  cases hop : s.op with
  | none =>
    rw [hop] at c11
    unfold kOf at c11
    simp only at c11
    have hlf := HLF.out
    rw [hop] at hlf
    have HLF2 := Lib.hid hlf
    clear h hop HLF hlf hm
    go_enter Try.func28, Try.ntmps28
    go_upto_region 1 with (fail)
    refine wp_region_up (by kernel_rfl) (by kernel_rfl) ?_
    repeat (go_big_quiet_step (first | (go_at_call 22; exact Calls.up_of (HC.out _))))
    refine wpQuiet_nil ?_
    intro V hV
    obtain ⟨g, hg⟩ := hV
    have hb := g.h
    rw [← hg] at hb
    clear hg
    have HB := Lib.hid hb
    have c11' := (hb.cell (p := ⟨P, 11, none⟩) l1).trans c11
    clear hb
    go_wp2
    go_ret
    rw [HLF2.out]
    exact ⟨rfl, HB.out⟩
  | some k0 =>
    rw [hop] at c11
    unfold kOf at c11
    simp only at c11
    have hlf := HLF.out
    rw [hop] at hlf
    simp only at hlf
    have w2 : IntKind.i64.wrap ((s.c.seg : Int) - (s.us : Int)) = (s.c.seg : Int) - (s.us : Int) := IntWalk.i64_in _ (by omega)
    have w3 : IntKind.i64.wrap ((m : Int) + ((s.c.seg : Int) - (s.us : Int))) = (m : Int) + ((s.c.seg : Int) - (s.us : Int)) := IntWalk.i64_in _ (by omega)
    have HLF2 : Hid ((m : Int) + ((s.c.seg : Int) - (s.us : Int)) = (s.left : Nat)) := by show (m : Int) + ((s.c.seg : Int) - (s.us : Int)) = (s.left : Nat); rw [hlf]; omega
    have i0 : (0 : Int) ≤ (k0 : Int) := by omega
    clear h hop HLF hlf hm
    go_enter Try.func28, Try.ntmps28
    go_upto_region 1 with (fail)
    refine wp_region_up (by kernel_rfl) (by kernel_rfl) ?_
    repeat (go_big_quiet_step (first | (go_at_call 22; exact Calls.up_of (HC.out _))))
    refine wpQuiet_nil ?_
    intro V hV
    obtain ⟨g, hg⟩ := hV
    have hb := g.h
    rw [← hg] at hb
    clear hg
    have HB := Lib.hid hb
    have HW : Hid (∀ m, Below w.heap.size w (V.drewN m)) := fun m => below_drewN HB.out m
    have c11' := (hb.cell (p := ⟨P, 11, none⟩) l1).trans c11
    have c12' := (hb.cell (p := ⟨P, 12, none⟩) l1).trans c12
    have b3' := (hb.cell (p := ⟨P, 3, none⟩) l1).trans b3
    clear hb
    go_upto_region 3 with (fail)
    go_quiet (fail)
    go_wp2
    go_ret
    rw [← HLF2.out]
    exact ⟨rfl, HW.out _⟩
end
end Go.Proofs.Ytlmgihnnphmmhaa
namespace Go.Proofs.Ytlmgihnnphmmhaa
open Go.RowKit
set_option linter.unusedVariables false
set_option linter.unusedSimpArgs false

set_option maxRecDepth 100000 in
set_option maxHeartbeats 2000000 in
theorem shaped_true {B D : Nat} (w : World) {c : Cfg} (h : c.Ok) {d : DkS} {O : Nat → Prop} (hd : DkAt B w D d O) (hS : d.S = c.sectors) (hz : d.z = c.z) :
    Calls Try.prog 64 #[c.val, .pointer (some ⟨D, 0, none⟩)] w fun e w' => e = .returned (.bool true) ∧ Below w.heap.size w w' := by
  have HB : Hid (∀ o, Below w.heap.size w (w.alloc o)) := fun o => (Below.refl _ _).alloc (Nat.le_refl _) o
  have HD := Lib.hid hd
  have HCK := Lib.hid (fun w' => check_any w' h)
  have HMD := Lib.hid (BoxC.made w c)
  have b0 := h.h0
  have b1 := h.h1
  obtain ⟨S, z, kept, pend, off⟩ := d
  obtain rfl : S = c.sectors := hS
  obtain rfl : z = c.z := hz
  clear h hd
  unfold Cfg.val at *
  unfold Cfg.cells at HMD
  go_enter Try.func64, Try.ntmps64
  go_upto_region 1 with (fail)
  refine wp_forget (fun W => BoxC W w.heap.size c ∧ Below w.heap.size w W ∧ w.heap.size < W.heap.size) ⟨HMD.out, HB.out _, by simp⟩ ?_
  clear HMD HB
  rintro W ⟨hbx, hbW, hl⟩
  have HBX := Lib.hid hbx
  have HBW := Lib.hid hbW
  have HSH := Lib.hid (dkShape_any (HD.out.up hbW))
  clear hbx hbW
  go_wp2_with fail
  refine HSH.out.mono ?_
  rintro _ w1 ⟨rfl, k, rfl⟩
  clear HSH
  obtain ⟨q0, q1, q2, q3, q4, q5, q6, q7, q8⟩ := HBX.out
  go_wp2_with fail
  refine (HCK.out _).mono ?_
  rintro _ w2 ⟨rfl, hb2⟩
  have HB2 := Lib.hid (below_upto HBW.out (below_upto (below_drewN (Below.refl _ _) k) hb2 (Nat.le_refl _)) (Nat.le_refl _))
  have r0 : w2.cell? ⟨w.heap.size, 0, none⟩ = some (.int .i64 (c.sectors : Nat)) := (hb2.cell (p := ⟨w.heap.size, 0, none⟩) hl).trans q0
  have r1 : w2.cell? ⟨w.heap.size, 1, none⟩ = some (.int .i64 (c.z : Nat)) := (hb2.cell (p := ⟨w.heap.size, 1, none⟩) hl).trans q1
  clear hb2 q0 q1 q2 q3 q4 q5 q6 q7 q8
  go_wp2
  go_ret
  exact ⟨rfl, HB2.out⟩
end Go.Proofs.Ytlmgihnnphmmhaa
namespace Go.Proofs.Ytlmgihnnphmmhaa
open Go.RowKit
set_option linter.unusedVariables false
set_option linter.unusedSimpArgs false

theorem TbAt.lower {B B' : Nat} {w : World} {T M : Nat} {s : TbS} (h : TbAt B w T M s) (hb : B' ≤ B) : TbAt B' w T M s := ⟨h.c0, h.c1, h.mp, ⟨by have := h.lo.1; omega, by have := h.lo.2; omega⟩, h.ok, h.bn⟩
theorem DkAt.lts {B D : Nat} {w : World} {d : DkS} {O : Nat → Prop} (h : DkAt B w D d O) : ∀ g, O g → B ≤ g ∧ g < w.heap.size := by
  obtain ⟨_, _, _, _, _, _, _, _, h3⟩ := h
  exact h3
def st0 (c : Cfg) (d : DkS) (f : Nat → Bool) : StS := ⟨c, d, tbF c.segs f c.segs, none, 0⟩
theorem StOk.st0 {c : Cfg} {d : DkS} (f : Nat → Bool) (h : c.Ok) (hS : d.S = c.sectors) (hz : d.z = c.z) : StOk (st0 c d f) := by
  refine ⟨h, hS, hz, rfl, (fun k hk => by cases hk), (fun k u hk => ?_), Nat.zero_le _, (fun _ => rfl), fun k u hk => by cases hk⟩
  have hk' : (if k < c.segs ∧ f k = true then some (2, 0) else none : Option (Nat × Nat)) = some (1, u) := hk
  split at hk' <;> cases hk'
theorem stMade {B B2 D T M : Nat} {w0 w : World} {c : Cfg} {d : DkS} {O : Nat → Prop} {f : Nat → Bool} (hk : StOk (st0 c d f)) (hd : DkAt B w0 D d O) (hb : Below w0.heap.size w0 w) (ht : TbAt B2 w T M (tbF c.segs f c.segs)) (h2 : w0.heap.size ≤ B2) (hB : B ≤ w0.heap.size) :
    StAt B (w.alloc (.cells #[.int .i64 (c.sectors : Nat), .int .i64 (c.z : Nat), .int .i64 (c.journal : Nat), .int .i64 (c.seg : Nat), .int .i64 (c.page : Nat), .int .i64 (c.frames : Nat), .int .i64 (c.procs : Nat), .int .i64 (c.regions : Nat), .int .i64 (c.pages : Nat), .pointer (some ⟨D, 0, none⟩), .pointer (some ⟨T, 0, none⟩), .int .i64 (-1), .int .i64 0] 86)) w.heap.size D T M O (st0 c d f) := by
  have hn := heap_alloc_new w (.cells #[.int .i64 (c.sectors : Nat), .int .i64 (c.z : Nat), .int .i64 (c.journal : Nat), .int .i64 (c.seg : Nat), .int .i64 (c.page : Nat), .int .i64 (c.frames : Nat), .int .i64 (c.procs : Nat), .int .i64 (c.regions : Nat), .int .i64 (c.pages : Nat), .pointer (some ⟨D, 0, none⟩), .pointer (some ⟨T, 0, none⟩), .int .i64 (-1), .int .i64 0] 86)
  have ha : Below w.heap.size w (w.alloc (.cells #[.int .i64 (c.sectors : Nat), .int .i64 (c.z : Nat), .int .i64 (c.journal : Nat), .int .i64 (c.seg : Nat), .int .i64 (c.page : Nat), .int .i64 (c.frames : Nat), .int .i64 (c.procs : Nat), .int .i64 (c.regions : Nat), .int .i64 (c.pages : Nat), .pointer (some ⟨D, 0, none⟩), .pointer (some ⟨T, 0, none⟩), .int .i64 (-1), .int .i64 0] 86)) := (Below.refl _ _).alloc (Nat.le_refl _) _
  have hO := hd.lts
  have hs := hb.size
  obtain ⟨l1, l2, l3⟩ := ht.lt
  have lo := ht.lo
  refine ⟨⟨?_, by rw [cell_of_row _ _ _ _ _ _ hn]; rfl, by rw [cell_of_row _ _ _ _ _ _ hn]; rfl, by rw [cell_of_row _ _ _ _ _ _ hn]; rfl, by rw [cell_of_row _ _ _ _ _ _ hn]; rfl, fun j => frozen_of_row _ _ _ _ _ hn, (hd.up hb).up ha, (ht.up ha).lower (by omega), by omega, ?_⟩, hk⟩
  · unfold BoxC
    refine ⟨?_, ?_, ?_, ?_, ?_, ?_, ?_, ?_, ?_⟩ <;> (rw [cell_of_row _ _ _ _ _ _ hn]; rfl)
  · exact ⟨fun h => by have := hO _ h; omega, fun h => by have := hO _ h; omega, fun h => by have := hO _ h; omega, by omega, by omega⟩
def NwPost (B : Nat) (w : World) (D : Nat) (O : Nat → Prop) (s : StS) (e : Ending) (w' : World) : Prop :=
  ∃ P, e = .returned (.tuple #[.pointer (some ⟨P, 0, none⟩), .int .i64 0]) ∧ Below w.heap.size w w' ∧ ∃ T M, StAt B w' P D T M O s
set_option maxRecDepth 100000 in
set_option maxHeartbeats 2000000 in
theorem stNew_any {B D : Nat} (w : World) {c : Cfg} (h : c.Ok) {d : DkS} {O : Nat → Prop} (hd : DkAt B w D d O) (hS : d.S = c.sectors) (hz : d.z = c.z) {A : Option Addr} {cp : Nat} {f : Nat → Bool} (hA : SBo w A c.segs f) (hB : B ≤ w.heap.size) :
    Calls Try.prog 27 #[c.val, .pointer (some ⟨D, 0, none⟩), .slice A c.segs cp] w (NwPost B w D O (st0 c d f)) := by
  have HB : Hid (∀ o, Below w.heap.size w (w.alloc o)) := fun o => (Below.refl _ _).alloc (Nat.le_refl _) o
  have HD := Lib.hid hd
  have HA := Lib.hid hA
  have HOK := Lib.hid (StOk.st0 f h hS hz)
  have hsg := h.room.2
  have hs1 := h.hs
  have HSH : Hid (∀ w', Below w.heap.size w w' → Calls Try.prog 64 #[c.val, .pointer (some ⟨D, 0, none⟩)] w' fun e w'' => e = .returned (.bool true) ∧ Below w'.heap.size w' w'') := fun w' hb => shaped_true w' h (hd.up hb) hS hz
  have HSG := Lib.hid (fun w' => segments_any w' h)
  have HMD := Lib.hid (BoxC.made w c)
  obtain ⟨n, hn⟩ : ∃ n, n = c.segs := ⟨_, rfl⟩
  have HN := Lib.hid hn
  rw [← hn] at HA HSG hs1 hsg ⊢
  clear h hd hS hz hA hn
  unfold Cfg.val at *
  unfold Cfg.cells at HMD
  go_enter Try.func27, Try.ntmps27
  go_upto_region 1 with (fail)
  refine wp_forget (fun W => BoxC W w.heap.size c ∧ Below w.heap.size w W ∧ w.heap.size < W.heap.size) ⟨HMD.out, HB.out _, by simp⟩ ?_
  clear HMD HB
  rintro W ⟨hbx, hbW, hl⟩
  have HBX := Lib.hid hbx
  have HBW := Lib.hid hbW
  obtain ⟨q0, q1, q2, q3, q4, q5, q6, q7, q8⟩ := hbx
  clear hbW
  go_wp2_with fail
  refine (HSH.out _ HBW.out).mono ?_
  rintro _ w1 ⟨rfl, hb1⟩
  have HB1 := Lib.hid (below_upto HBW.out hb1 (Nat.le_refl _))
  obtain ⟨q0, q1, q2, q3, q4, q5, q6, q7, q8⟩ := HBX.out.up (fun j => hb1.cell (p := ⟨w.heap.size, j, none⟩) hl)
  have hl1 : w.heap.size < w1.heap.size := Nat.lt_of_lt_of_le hl hb1.size
  have HBX1 := Lib.hid (HBX.out.up (w' := w1) (fun j => hb1.cell (p := ⟨w.heap.size, j, none⟩) hl))
  clear hb1 HBX HBW HSH
  go_wp2_with fail
  refine (HSG.out w1).mono ?_
  rintro _ w2 ⟨rfl, hb2⟩
  have HB2 := Lib.hid (below_upto HB1.out hb2 (Nat.le_refl _))
  have HBX2 := Lib.hid (HBX1.out.up (w' := w2) (fun j => hb2.cell (p := ⟨w.heap.size, j, none⟩) hl1))
  have hl2 : w.heap.size < w2.heap.size := Nat.lt_of_lt_of_le hl1 hb2.size
  clear hb2 q0 q1 q2 q3 q4 q5 q6 q7 q8 HB1 HBX1 hl hl1
  go_wp2_with fail
  refine (tbLoad_any w2 (HA.out.up HB2.out) ⟨by omega, hsg⟩).mono ?_
  rintro _ w3 ⟨T, rfl, hb3, M, ht⟩
  have HB3 := Lib.hid (below_upto HB2.out hb3 (Nat.le_refl _))
  have HT := Lib.hid ht
  have hl3 := hb3.size
  have hl4 := HB2.out.size
  obtain ⟨q0, q1, q2, q3, q4, q5, q6, q7, q8⟩ := HBX2.out.up (w' := w3) (fun j => hb3.cell (p := ⟨w.heap.size, j, none⟩) hl2)
  have HF := Lib.hid (stMade (f := f) HOK.out HD.out HB3.out (T := T) (M := M) (by rw [← HN.out]; exact HT.out) hl4 hB)
  clear hb3 ht HB2 HBX2 HSG
  go_wp2
  go_ret2
  exact ⟨_, rfl, HB3.out.alloc HB3.out.size _, _, _, HF.out⟩
end Go.Proofs.Ytlmgihnnphmmhaa
namespace Go.Proofs.Ytlmgihnnphmmhaa
open Go.RowKit
set_option linter.unusedVariables false
set_option linter.unusedSimpArgs false

section
variable {B : Nat} {w w' : World} {P D T M : Nat} {O S : Nat → Prop} {s : StS}
/-- Where a blob of n sectors will lie. -/
def NxIs (s : StS) (n : Nat) (k : Int) (u : Nat) (e : Int) : Prop :=
  (∃ k0, s.op = some k0 ∧ s.us + n ≤ s.c.seg ∧ k = (k0 : Int) ∧ u = s.us ∧ e = 0) ∨ ((∀ k0, s.op = some k0 → ¬ s.us + n ≤ s.c.seg) ∧ ∃ r, Fst s.t r ∧ k = kOf r ∧ u = 0 ∧ e = eOf r)
def NxPost (s : StS) (n : Nat) (w : World) (e : Ending) (w' : World) : Prop := ∃ (k : Int) (u : Nat) (er : Int), e = .returned (.tuple #[.int .i64 k, .int .i64 (u : Nat), .int .i64 er]) ∧ NxIs s n k u er ∧ Below w.heap.size w w'
theorem loadVar_int {ty : TypeId} {a : Addr} {v : Value} {w : World} (ht : Try.prog.underlying ty = some (.int .i64)) (h : w.cell? a = some v) : (loadVar ty a).run Try.prog w = .ok v w := by
  simp [loadVar, isAgg, run_underlying ht, h, Result.andThen, go_sem]
theorem results_ctc {fn : Func} {p q t : Tmp} {ty1 ty2 : TypeId} (h : fn.results = #[.cell p ty1, .tmp t, .cell q ty2]) (tmps : Array Value) (w : World) (g1 g2 : Nat) (v1 v2 : Value) (hp : tmps.getD p undef = .pointer (some ⟨g1, 0, none⟩)) (hq : tmps.getD q undef = .pointer (some ⟨g2, 0, none⟩)) (h1 : w.cell? ⟨g1, 0, none⟩ = some v1) (h2 : w.cell? ⟨g2, 0, none⟩ = some v2)
    (ht1 : Try.prog.underlying ty1 = some (.int .i64)) (ht2 : Try.prog.underlying ty2 = some (.int .i64)) :
    (results fn tmps).run Try.prog w = .ok (.tuple #[v1, tmps.getD t undef, v2]) w := by
  have e : (results fn tmps).run Try.prog w =
      ((asAddr (tmps.getD p undef)).run Try.prog w).andThen fun a w₁ => ((loadVar ty1 a).run Try.prog w₁).andThen fun v w₂ => ((asAddr (tmps.getD q undef)).run Try.prog w₂).andThen fun a w₃ => ((loadVar ty2 a).run Try.prog w₃).andThen fun v' w₄ => .ok (.tuple #[v, tmps.getD t undef, v']) w₄ := by
    simp only [results, h]
    simp [Sem.run_bind, Result.andThen]
  rw [e, hp, hq]
  simp only [asAddr, Sem.run_pure, Result.andThen_ok, loadVar_int ht1 h1, loadVar_int ht2 h2]
set_option maxRecDepth 100000 in
set_option maxHeartbeats 2000000 in
theorem stNext_any (h : StAt B w P D T M O s) {n : Nat} (hn : n ≤ 1048576) : Calls Try.prog 45 #[.pointer (some ⟨P, 0, none⟩), .int .i64 (n : Nat)] w (NxPost s n w) := by
  have c10 := h.c10
  have c11 := h.c11
  have c12 := h.c12
  obtain ⟨b0, b1, b2, b3, b4, b5, b6, b7, b8⟩ := h.bx
  have hseg := h.ok.ok.h3
  have husl := h.ok.usl
  obtain ⟨l1, l2, l3, l4⟩ := h.lts
  have H := Lib.hid h
  have w1 : IntKind.i64.wrap ((s.us : Int) + (n : Int)) = (s.us : Int) + (n : Int) := IntWalk.i64_in _ (by omega)
  by_cases hfit : ∃ k0, s.op = some k0 ∧ s.us + n ≤ s.c.seg
  · obtain ⟨k0, hop, hle⟩ := hfit
    rw [hop] at c11
    unfold kOf at c11
    simp only at c11
    have k1 : decide ((k0 : Int) ≥ 0) = true := decide_eq_true (by omega)
    have k2 : decide ((s.us : Int) + (n : Int) ≤ (s.c.seg : Int)) = true := decide_eq_true (by omega)
    have k3 : s.us + n ≤ s.c.seg := hle
    have HN : Hid (NxIs s n (k0 : Int) s.us 0) := .inl ⟨k0, hop, hle, rfl, rfl, rfl⟩
    clear h hop hle
    go_enter Try.func45, Try.ntmps45
    go_upto_region 1 with (fail)
    go_quiet (fail)
    go_upto_region 2 with (fail)
    obtain ⟨W, hW⟩ : ∃ W, W = (w.alloc (.cells #[.int .i64 0] 3)).alloc (.cells #[.int .i64 0] 31) := ⟨_, rfl⟩
    have HF : Hid (∀ k, Below w.heap.size w ((((((w.alloc (.cells #[.int .i64 0] 3)).alloc (.cells #[.int .i64 0] 31))).drewN k).setCell ⟨w.heap.size, 0, none⟩ (.int .i64 (k0 : Nat))).setCell ⟨w.heap.size + 1, 0, none⟩ (.int .i64 0)) ∧
        ((((((w.alloc (.cells #[.int .i64 0] 3)).alloc (.cells #[.int .i64 0] 31))).drewN k).setCell ⟨w.heap.size, 0, none⟩ (.int .i64 (k0 : Nat))).setCell ⟨w.heap.size + 1, 0, none⟩ (.int .i64 0)).cell? ⟨w.heap.size, 0, none⟩ = some (.int .i64 (k0 : Nat)) ∧
        ((((((w.alloc (.cells #[.int .i64 0] 3)).alloc (.cells #[.int .i64 0] 31))).drewN k).setCell ⟨w.heap.size, 0, none⟩ (.int .i64 (k0 : Nat))).setCell ⟨w.heap.size + 1, 0, none⟩ (.int .i64 0)).cell? ⟨w.heap.size + 1, 0, none⟩ = some (.int .i64 0)) := by
      intro k
      rw [← hW]
      have b1 : W.heap[w.heap.size]? = some (.cells #[.int .i64 0] 3 (0, 0)) := by rw [hW]; exact heap_alloc2_old _ _ _
      have b2 : W.heap[w.heap.size + 1]? = some (.cells #[.int .i64 0] 31 (0, 0)) := by rw [hW]; exact heap_alloc2_new _ _ _
      have hb : Below w.heap.size w W := by rw [hW]; exact ((Below.refl _ _).alloc (Nat.le_refl _) _).alloc (by simp) _
      have n1 : (⟨w.heap.size + 1, 0, none⟩ : Addr) ≠ ⟨w.heap.size, 0, none⟩ := fun e => by injection e with e1; omega
      have d1 : (W.drewN k).cell? ⟨w.heap.size, 0, none⟩ = some (.int .i64 0) := by
        show W.cell? _ = _
        rw [cell_of_row _ _ _ _ _ _ b1]; rfl
      have d2 : (W.drewN k).cell? ⟨w.heap.size + 1, 0, none⟩ = some (.int .i64 0) := by
        show W.cell? _ = _
        rw [cell_of_row _ _ _ _ _ _ b2]; rfl
      refine ⟨((below_drewN hb k).setCell (p := ⟨w.heap.size, 0, none⟩) (Nat.le_refl _) _).setCell (p := ⟨w.heap.size + 1, 0, none⟩) (by show w.heap.size ≤ w.heap.size + 1; omega) _, ?_, ?_⟩
      · rw [World.cell?_setCell_other _ _ _ _ n1]
        exact World.cell?_setCell_same _ _ _ d1
      · exact World.cell?_setCell_same _ _ _ ((World.cell?_setCell_other _ _ _ _ n1.symm).trans d2)
    clear hW
    go_region_law (fail)
    all_goals
      go_wp2
      refine bodyPost_ret (results_ctc rfl _ _ _ _ _ _ rfl rfl (HF.out _).2.1 (HF.out _).2.2 Try.underlying3 Try.underlying31) rfl ?_
      exact ⟨_, _, _, rfl, HN.out, (HF.out _).1⟩
  · have hnf : ∀ k0, s.op = some k0 → ¬ s.us + n ≤ s.c.seg := fun k0 h1 h2 => hfit ⟨k0, h1, h2⟩
    have HNF := Lib.hid hnf
    obtain ⟨W, hW⟩ : ∃ W, W = (w.alloc (.cells #[.int .i64 0] 3)).alloc (.cells #[.int .i64 0] 31) := ⟨_, rfl⟩
    have HF : Hid (∀ k, Below w.heap.size w (((W.drewN k).setCell ⟨w.heap.size, 0, none⟩ (.int .i64 (-1))).setCell ⟨w.heap.size + 1, 0, none⟩ (.int .i64 7)) ∧
        (((W.drewN k).setCell ⟨w.heap.size, 0, none⟩ (.int .i64 (-1))).setCell ⟨w.heap.size + 1, 0, none⟩ (.int .i64 7)).cell? ⟨w.heap.size, 0, none⟩ = some (.int .i64 (-1)) ∧
        (((W.drewN k).setCell ⟨w.heap.size, 0, none⟩ (.int .i64 (-1))).setCell ⟨w.heap.size + 1, 0, none⟩ (.int .i64 7)).cell? ⟨w.heap.size + 1, 0, none⟩ = some (.int .i64 7) ∧
        (((W.drewN k).setCell ⟨w.heap.size, 0, none⟩ (.int .i64 (-1))).setCell ⟨w.heap.size + 1, 0, none⟩ (.int .i64 7)).frozen? ⟨w.heap.size, 0, none⟩ = false ∧ (((W.drewN k).setCell ⟨w.heap.size, 0, none⟩ (.int .i64 (-1))).setCell ⟨w.heap.size + 1, 0, none⟩ (.int .i64 7)).frozen? ⟨w.heap.size + 1, 0, none⟩ = false) := by
      intro k
      have b1 : W.heap[w.heap.size]? = some (.cells #[.int .i64 0] 3 (0, 0)) := by rw [hW]; exact heap_alloc2_old _ _ _
      have b2 : W.heap[w.heap.size + 1]? = some (.cells #[.int .i64 0] 31 (0, 0)) := by rw [hW]; exact heap_alloc2_new _ _ _
      have hb : Below w.heap.size w W := by rw [hW]; exact ((Below.refl _ _).alloc (Nat.le_refl _) _).alloc (by simp) _
      have n1 : (⟨w.heap.size + 1, 0, none⟩ : Addr) ≠ ⟨w.heap.size, 0, none⟩ := fun e => by injection e with e1; omega
      have d1 : (W.drewN k).cell? ⟨w.heap.size, 0, none⟩ = some (.int .i64 0) := by
        show W.cell? _ = _
        rw [cell_of_row _ _ _ _ _ _ b1]; rfl
      have d2 : (W.drewN k).cell? ⟨w.heap.size + 1, 0, none⟩ = some (.int .i64 0) := by
        show W.cell? _ = _
        rw [cell_of_row _ _ _ _ _ _ b2]; rfl
      have f1 : (W.drewN k).frozen? ⟨w.heap.size, 0, none⟩ = false := frozen_of_row W _ _ _ _ b1
      have f2 : (W.drewN k).frozen? ⟨w.heap.size + 1, 0, none⟩ = false := frozen_of_row W _ _ _ _ b2
      refine ⟨((below_drewN hb k).setCell (p := ⟨w.heap.size, 0, none⟩) (Nat.le_refl _) _).setCell (p := ⟨w.heap.size + 1, 0, none⟩) (by show w.heap.size ≤ w.heap.size + 1; omega) _, ?_, ?_, by rw [World.frozen?_setCell, World.frozen?_setCell]; exact f1, by rw [World.frozen?_setCell, World.frozen?_setCell]; exact f2⟩
      · rw [World.cell?_setCell_other _ _ _ _ n1]
        exact World.cell?_setCell_same _ _ _ d1
      · exact World.cell?_setCell_same _ _ _ ((World.cell?_setCell_other _ _ _ _ n1.symm).trans d2)
    have HW := Lib.hid hW
    have hg : (∃ k0 : Nat, s.op = some k0 ∧ decide ((k0 : Int) ≥ 0) = true ∧ decide ((s.us : Int) + (n : Int) ≤ (s.c.seg : Int)) = false ∧ ¬ s.us + n ≤ s.c.seg) ∨ s.op = none := by
      cases hop : s.op with
      | none => exact .inr rfl
      | some k0 => exact .inl ⟨k0, rfl, decide_eq_true (by omega), decide_eq_false (by have := hnf k0 hop; omega), hnf k0 hop⟩
    clear h hnf hfit hW
    rcases hg with ⟨k0, hop, k1, k2, k3⟩ | hop
    all_goals
      rw [hop] at c11
      unfold kOf at c11
      simp only at c11
      clear hop
      go_enter Try.func45, Try.ntmps45
      go_upto_region 1 with (fail)
      go_quiet (fail)
      go_upto_region 4 with (fail)
      rw [← HW.out]
      refine wp_forget (fun V => Below w.heap.size w V ∧ V.cell? ⟨w.heap.size, 0, none⟩ = some (.int .i64 (-1)) ∧ V.cell? ⟨w.heap.size + 1, 0, none⟩ = some (.int .i64 7) ∧ V.frozen? ⟨w.heap.size, 0, none⟩ = false ∧ V.frozen? ⟨w.heap.size + 1, 0, none⟩ = false) (HF.out _) ?_
      clear HF HW b0 b1 b2 b3 b4 b5 b6 b7 b8
      rintro V ⟨hbV, d1, d2, f1, f2⟩
      have c10' : V.cell? ⟨P, 10, none⟩ = some (.pointer (some ⟨T, 0, none⟩)) := (hbV.cell (p := ⟨P, 10, none⟩) l1).trans c10
      have HE := Lib.hid (eachNext_any (H.out.up hbV).tb d1 f1 d2 f2 (by omega) ⟨by omega, by omega, by omega, by omega⟩)
      have HBV := Lib.hid hbV
      clear hbV
      go_wp2_with fail
      refine HE.out.mono ?_
      rintro _ V2 ⟨rfl, r, hr, e1, e2, g1, g2, ho⟩
      have HR := Lib.hid hr
      have HB2 := Lib.hid (HBV.out.trans (ho.below (fun g e => by rcases e with e | e <;> omega) HBV.out.size))
      clear hr ho HE HBV
      have HFN : Hid (∀ m, (((V2.drewN m).setCell ⟨w.heap.size, 0, none⟩ (.int .i64 (kOf r))).setCell ⟨w.heap.size + 1, 0, none⟩ (.int .i64 (eOf r))).cell? ⟨w.heap.size, 0, none⟩ = some (.int .i64 (kOf r)) ∧ (((V2.drewN m).setCell ⟨w.heap.size, 0, none⟩ (.int .i64 (kOf r))).setCell ⟨w.heap.size + 1, 0, none⟩ (.int .i64 (eOf r))).cell? ⟨w.heap.size + 1, 0, none⟩ = some (.int .i64 (eOf r)) ∧
          Below w.heap.size w (((V2.drewN m).setCell ⟨w.heap.size, 0, none⟩ (.int .i64 (kOf r))).setCell ⟨w.heap.size + 1, 0, none⟩ (.int .i64 (eOf r)))) := by
        intro m
        have n1 : (⟨w.heap.size + 1, 0, none⟩ : Addr) ≠ ⟨w.heap.size, 0, none⟩ := fun e => by injection e with e1; omega
        refine ⟨?_, World.cell?_setCell_same _ _ _ ((World.cell?_setCell_other _ _ _ _ n1.symm).trans e2), ((below_drewN HB2.out m).setCell (p := ⟨w.heap.size, 0, none⟩) (Nat.le_refl _) _).setCell (p := ⟨w.heap.size + 1, 0, none⟩) (by show w.heap.size ≤ w.heap.size + 1; omega) _⟩
        rw [World.cell?_setCell_other _ _ _ _ n1]
        exact World.cell?_setCell_same _ _ _ e1
      go_upto_region 5 with (fail)
      go_region_law (fail)
      all_goals
        go_wp2
        refine bodyPost_ret (results_ctc rfl _ _ _ _ _ _ rfl rfl (HFN.out 1).1 (HFN.out 1).2.1 Try.underlying3 Try.underlying31) rfl ?_
        exact ⟨_, _, _, rfl, .inr ⟨HNF.out, r, HR.out, rfl, rfl, rfl⟩, (HFN.out 1).2.2⟩
end
end Go.Proofs.Ytlmgihnnphmmhaa
