/- blobs: Put, what is too long. blobs: Put, when nothing is free. blobs, plain: what Put leaves; the relation of its loop. -/
import Derived.Test.YtlmgihnnphmmhaaPaZ
import Derived.Test.YtlmgihnnphmmhaaLnZ
import Derived.Test.YtlmgihnnphmmhaaMB
import Derived.Test.YtlmgihnnphmmhaaMG
namespace Go.Proofs.Ytlmgihnnphmmhaa
open Go.RowKit
set_option linter.unusedVariables false
set_option linter.unusedSimpArgs false

/-- What Put writes. -/
def putF (b : Bytes) : Bytes := frameB (b8 1) (packB b)
theorem putF_length (b : Bytes) : (putF b).length = 13 + (packB b).length := frameB_length _ _
theorem putF_le (b : Bytes) : (putF b).length ≤ b.length + 14 := by rw [putF_length]; have := packB_le b; omega
theorem loadVar_addr {w : World} {g : Nat} {v0 v1 : Value} (h0 : w.cell? ⟨g, 0, none⟩ = some v0) (h1 : w.cell? ⟨g, 1, none⟩ = some v1) : (loadVar 30 ⟨g, 0, none⟩).run Try.prog w = .ok (.agg #[v0, v1]) w := by
  have hl : (loadCells ⟨g, 0, none⟩ 2).run Try.prog w = .ok [v0, v1].toArray w :=
    run_loadCells_list (P := Try.prog) w ⟨g, 0, none⟩ [v0, v1] (fun j v hv => by
      have hadd : (⟨g, 0, none⟩ : Addr).add j = ⟨g, j, none⟩ := by unfold Addr.add; split <;> simp_all
      rw [hadd]
      match j, hv with
      | 0, hv => cases hv; exact h0
      | 1, hv => cases hv; exact h1)
  have hagg : (isAgg 30).run Try.prog w = .ok true w := by kernel_rfl
  have hsz : (sizeOf 30).run Try.prog w = .ok 2 w := by kernel_rfl
  simp only [loadVar, Sem.run_bind, Result.andThen_ok, hagg, if_true, hsz, hl, Sem.run_pure]
theorem results_addr {fn : Func} {p u : Tmp} (h : fn.results = #[.cell p 30, .tmp u]) (tmps : Array Value) (w : World) (g : Nat) (v0 v1 : Value) (hp : tmps.getD p undef = .pointer (some ⟨g, 0, none⟩)) (h0 : w.cell? ⟨g, 0, none⟩ = some v0) (h1 : w.cell? ⟨g, 1, none⟩ = some v1) :
    (results fn tmps).run Try.prog w = .ok (.tuple #[.agg #[v0, v1], tmps.getD u undef]) w := by
  rw [results_cell_tmp h, hp]
  simp only [asAddr, Sem.run_pure, Result.andThen_ok, loadVar_addr h0 h1]
/-- A result's box is laid anew. -/
theorem box2_set {w : World} {g : Nat} {a b v0 v1 : Value} (h0 : w.cell? ⟨g, 0, none⟩ = some a) (h1 : w.cell? ⟨g, 1, none⟩ = some b) :
    ((w.setCell ⟨g, 0, none⟩ v0).setCell ⟨g, 1, none⟩ v1).cell? ⟨g, 0, none⟩ = some v0 ∧ ((w.setCell ⟨g, 0, none⟩ v0).setCell ⟨g, 1, none⟩ v1).cell? ⟨g, 1, none⟩ = some v1 := by
  have n1 : (⟨g, 1, none⟩ : Addr) ≠ ⟨g, 0, none⟩ := fun e => by injection e with e1 e2; omega
  refine ⟨?_, World.cell?_setCell_same _ _ _ ((World.cell?_setCell_other _ _ _ _ n1.symm).trans h1)⟩
  rw [World.cell?_setCell_other _ _ _ _ n1]
  exact World.cell?_setCell_same _ _ _ h0
def PLong (w : World) (er : Nat) (e : Ending) (w' : World) : Prop := e = .returned (.tuple #[addrV 0 0, .int .i64 (er : Nat)]) ∧ Below w.heap.size w w'
section
variable {B : Nat} {w w' : World} {P D T M : Nat} {O S : Nat → Prop} {s : StS}
set_option maxRecDepth 100000 in
set_option maxHeartbeats 2000000 in
theorem stPutLong_any (h : StAt B w P D T M O s) {A : Option Addr} {n c : Nat} {b : Bytes} (hb : SBy w A n b) (hc : n ≤ c) (hn : n ≤ 65536) (hlong : s.c.seg < secs s.c.z (putF b).length) :
    Calls Try.prog 13 #[.pointer (some ⟨P, 0, none⟩), .slice A n c] w (PLong w 24) := by
  have H := Lib.hid h
  have hlb := hb.1
  have hpk := packB_le b
  have HSB := Lib.hid hb
  have HLG := Lib.hid hlong
  obtain ⟨l1, l2, l3, l4⟩ := h.lts
  clear h hb hlong
  have a0 := alloc_at w (.agg #[.int .i64 0, .int .i64 0]) 30
  have HB : Hid (∀ o, Below w.heap.size w (w.alloc o)) := fun o => (Below.refl _ _).alloc (Nat.le_refl _) o
  go_enter Try.func13, Try.ntmps13
  go_upto_region 1 with (fail)
  refine wp_forget (fun W => (W.cell? ⟨w.heap.size, 0, none⟩ = some (.int .i64 0) ∧ W.cell? ⟨w.heap.size, 1, none⟩ = some (.int .i64 0) ∧ ∀ j, W.frozen? ⟨w.heap.size, j, none⟩ = false) ∧ Below w.heap.size w W ∧ w.heap.size < W.heap.size) ⟨?made, HB.out _, by simp⟩ ?_
  case made =>
    have b1 := heap_alloc_new w (.cells #[.int .i64 0, .int .i64 0] 30)
    exact ⟨by rw [cell_of_row _ _ _ _ _ _ b1]; rfl, by rw [cell_of_row _ _ _ _ _ _ b1]; rfl, fun j => frozen_of_row _ _ _ _ _ b1⟩
  clear HB a0
  rintro W ⟨⟨r0, r1, rz⟩, hbW, hl⟩
  have HBW := Lib.hid hbW
  have HS1 := Lib.hid (HSB.out.up hbW)
  clear hbW
  go_wp2_with fail
  refine (pack_any W A n c b HS1.out hc (by omega)).mono ?_
  rintro _ w1 ⟨A1, n1, c1, rfl, h1⟩
  have H1 := Lib.hid h1
  have e1 := h1.len
  clear h1 HS1
  go_wp2_with fail
  refine (frame_any w1 1 A1 n1 c1 (packB b) (by omega) H1.out.sby (by omega)).mono ?_
  rintro _ w2 ⟨A2, c2, rfl, h2⟩
  have hW1 := H1.out.bel
  have H2 := Lib.hid (h2.elder hW1)
  have hb2 := H2.out.bel
  have s0 := (hb2.cell (p := ⟨w.heap.size, 0, none⟩) hl).trans r0
  have s1 := (hb2.cell (p := ⟨w.heap.size, 1, none⟩) hl).trans r1
  have sz : ∀ j, w2.frozen? ⟨w.heap.size, j, none⟩ = false := fun j => (hb2.frozen (p := ⟨w.heap.size, j, none⟩) hl).trans (rz j)
  have HB2 := Lib.hid (below_upto HBW.out hb2 (Nat.le_refl _))
  have hl2 : w.heap.size < w2.heap.size := Nat.lt_of_lt_of_le hl hb2.size
  clear h2 hW1 hb2 r0 r1 rz HBW H1
  go_upto_region 3 with (fail)
  have hn1 : n1 = (packB b).length := e1.symm
  have HN1 := Lib.hid hn1
  have c1n : n1 ≤ 65537 := by omega
  clear hn1 e1 hpk hlb
  have HSE : Hid (∀ g : Up w, Calls Try.prog 44 #[s.c.val, .agg #[.int .i64 0, .int .i64 (13 + (n1 : Int))]] g.world fun e w' => e = .returned (.int .i64 (secs s.c.z (13 + n1) : Nat)) ∧ Below g.world.heap.size g.world w') := fun g => by
    have := sectors_any g.world H.out.ok.ok 0 (13 + n1) (by omega) (by omega)
    rwa [addrV, Int.natCast_add] at this
  refine wp_forget (fun V => (V.cell? ⟨w2.heap.size, 0, none⟩ = some (.int .i64 0) ∧ V.cell? ⟨w2.heap.size, 1, none⟩ = some (.int .i64 (13 + (n1 : Int))) ∧ ∀ j, V.frozen? ⟨w2.heap.size, j, none⟩ = false) ∧ Below w2.heap.size w2 V ∧ w2.heap.size < V.heap.size) ⟨?madea, (Below.refl _ _).alloc (Nat.le_refl _) _, by simp⟩ ?_
  case madea =>
    have b1 := heap_alloc_new w2 (.cells #[.int .i64 0, .int .i64 (13 + (n1 : Int))] 30)
    exact ⟨by rw [cell_of_row _ _ _ _ _ _ b1]; rfl, by rw [cell_of_row _ _ _ _ _ _ b1]; rfl, fun j => frozen_of_row _ _ _ _ _ b1⟩
  rintro w3 ⟨⟨t0, t1, tz⟩, hb3, hl3⟩
  have HB3 := Lib.hid (below_upto HB2.out hb3 (Nat.le_refl _))
  have u0 := (hb3.cell (p := ⟨w.heap.size, 0, none⟩) hl2).trans s0
  have u1 := (hb3.cell (p := ⟨w.heap.size, 1, none⟩) hl2).trans s1
  have uz : ∀ j, w3.frozen? ⟨w.heap.size, j, none⟩ = false := fun j => (hb3.frozen (p := ⟨w.heap.size, j, none⟩) hl2).trans (sz j)
  clear s0 s1 sz hb3
  have HST := Lib.hid (H.out.up HB3.out)
  obtain ⟨q0, q1, q2, q3, q4, q5, q6, q7, q8⟩ := HST.out.bx
  have HSE3 : Hid (∀ g : Up w3, Calls Try.prog 44 #[.agg #[.int .i64 (s.c.sectors : Nat), .int .i64 (s.c.z : Nat), .int .i64 (s.c.journal : Nat), .int .i64 (s.c.seg : Nat), .int .i64 (s.c.page : Nat), .int .i64 (s.c.frames : Nat), .int .i64 (s.c.procs : Nat), .int .i64 (s.c.regions : Nat), .int .i64 (s.c.pages : Nat)], .agg #[.int .i64 0, .int .i64 (13 + (n1 : Int))]] g.world fun e w' => e = .returned (.int .i64 (secs s.c.z (13 + n1) : Nat)) ∧ Below g.world.heap.size g.world w') := fun g => HSE.out ⟨g.world, below_upto HB3.out g.h (Nat.le_refl _)⟩
  have lP3 : P < w3.heap.size := Nat.lt_of_lt_of_le l1 HB3.out.size
  clear HSE
  refine wp_region_up (by kernel_rfl) (by kernel_rfl) ?_
  repeat (go_big_quiet_step (first | (go_at_call 44; exact Calls.up_of (HSE3.out _))))
  refine wpQuiet_nil ?_
  intro V hV
  obtain ⟨g, hg⟩ := hV
  have hb := g.h
  rw [← hg] at hb
  clear hg
  have HBV := Lib.hid (below_upto HB3.out hb (Nat.le_refl _))
  have lw3 : w.heap.size < w3.heap.size := Nat.lt_of_lt_of_le hl2 (by omega)
  have la3 : w2.heap.size < w3.heap.size := hl3
  have v3 := (hb.cell (p := ⟨P, 3, none⟩) lP3).trans q3
  have y0 := (hb.cell (p := ⟨w.heap.size, 0, none⟩) lw3).trans u0
  have y1 := (hb.cell (p := ⟨w.heap.size, 1, none⟩) lw3).trans u1
  have yz : ∀ j, V.frozen? ⟨w.heap.size, j, none⟩ = false := fun j => (hb.frozen (p := ⟨w.heap.size, j, none⟩) lw3).trans (uz j)
  have z0 := yz 0
  have z1 := yz 1
  have hlg : s.c.seg < secs s.c.z (13 + n1) := by have := HLG.out; rwa [putF_length, ← HN1.out] at this
  clear q0 q1 q2 q3 q4 q5 q6 q7 q8 u0 u1 uz t0 t1 tz HSE3 hb yz
  generalize secs s.c.z (13 + n1) = x at *
  have k1 : (s.c.seg : Int) < (x : Int) := by omega
  clear hlg
  go_upto_region 5 with (fail)
  go_wp2
  obtain ⟨f0, f1⟩ := box2_set (v0 := .int .i64 0) (v1 := .int .i64 0) y0 y1
  refine bodyPost_ret (results_addr rfl _ _ _ _ _ rfl f0 f1) rfl ?_
  exact ⟨rfl, (HBV.out.setCell (p := ⟨w.heap.size, 0, none⟩) (Nat.le_refl _) _).setCell (p := ⟨w.heap.size, 1, none⟩) (Nat.le_refl _) _⟩
end
end Go.Proofs.Ytlmgihnnphmmhaa
namespace Go.Proofs.Ytlmgihnnphmmhaa
open Go.RowKit
set_option linter.unusedVariables false
set_option linter.unusedSimpArgs false

theorem Fst.un {s : TbS} {r r' : Option Nat} (h : Fst s r) (h' : Fst s r') : r = r' := by
  cases r with
  | none =>
    cases r' with
    | none => rfl
    | some k => exact absurd h'.2.1 (h k h'.1)
  | some k =>
    cases r' with
    | none => exact absurd h.2.1 (h' k h.1)
    | some k' =>
      rcases Nat.lt_trichotomy k k' with e | e | e
      · exact absurd h.2.1 (h'.2.2 k e)
      · rw [e]
      · exact absurd h'.2.1 (h.2.2 k' e)
/-- No room: the open segment has too little left, and none is free. -/
def NoRoom (s : StS) (n : Nat) : Prop := (∀ k0, s.op = some k0 → ¬ s.us + n ≤ s.c.seg) ∧ Fst s.t none
section
variable {B : Nat} {w w' : World} {P D T M : Nat} {O S : Nat → Prop} {s : StS}
set_option maxRecDepth 100000 in
set_option maxHeartbeats 2000000 in
theorem stPutSpace_any (h : StAt B w P D T M O s) {A : Option Addr} {n c : Nat} {b : Bytes} (hb : SBy w A n b) (hc : n ≤ c) (hn : n ≤ 65536) (hlong : secs s.c.z (putF b).length ≤ s.c.seg) (hroom : NoRoom s (secs s.c.z (putF b).length)) :
    Calls Try.prog 13 #[.pointer (some ⟨P, 0, none⟩), .slice A n c] w (PLong w 7) := by
  have H := Lib.hid h
  have hlb := hb.1
  have hpk := packB_le b
  have HSB := Lib.hid hb
  have HLG := Lib.hid hlong
  have HNR := Lib.hid hroom
  have hsg := h.ok.ok.h3
  obtain ⟨l1, l2, l3, l4⟩ := h.lts
  clear h hb hlong hroom
  have a0 := alloc_at w (.agg #[.int .i64 0, .int .i64 0]) 30
  have HB : Hid (∀ o, Below w.heap.size w (w.alloc o)) := fun o => (Below.refl _ _).alloc (Nat.le_refl _) o
  go_enter Try.func13, Try.ntmps13
  go_upto_region 1 with (fail)
  refine wp_forget (fun W => (W.cell? ⟨w.heap.size, 0, none⟩ = some (.int .i64 0) ∧ W.cell? ⟨w.heap.size, 1, none⟩ = some (.int .i64 0) ∧ ∀ j, W.frozen? ⟨w.heap.size, j, none⟩ = false) ∧ Below w.heap.size w W ∧ w.heap.size < W.heap.size) ⟨?made, HB.out _, by simp⟩ ?_
  case made =>
    have b1 := heap_alloc_new w (.cells #[.int .i64 0, .int .i64 0] 30)
    exact ⟨by rw [cell_of_row _ _ _ _ _ _ b1]; rfl, by rw [cell_of_row _ _ _ _ _ _ b1]; rfl, fun j => frozen_of_row _ _ _ _ _ b1⟩
  clear HB a0
  rintro W ⟨⟨r0, r1, rz⟩, hbW, hl⟩
  have HBW := Lib.hid hbW
  have HS1 := Lib.hid (HSB.out.up hbW)
  clear hbW
  go_wp2_with fail
  refine (pack_any W A n c b HS1.out hc (by omega)).mono ?_
  rintro _ w1 ⟨A1, n1, c1, rfl, h1⟩
  have H1 := Lib.hid h1
  have e1 := h1.len
  clear h1 HS1
  go_wp2_with fail
  refine (frame_any w1 1 A1 n1 c1 (packB b) (by omega) H1.out.sby (by omega)).mono ?_
  rintro _ w2 ⟨A2, c2, rfl, h2⟩
  have hW1 := H1.out.bel
  have H2 := Lib.hid (h2.elder hW1)
  have hb2 := H2.out.bel
  have s0 := (hb2.cell (p := ⟨w.heap.size, 0, none⟩) hl).trans r0
  have s1 := (hb2.cell (p := ⟨w.heap.size, 1, none⟩) hl).trans r1
  have sz : ∀ j, w2.frozen? ⟨w.heap.size, j, none⟩ = false := fun j => (hb2.frozen (p := ⟨w.heap.size, j, none⟩) hl).trans (rz j)
  have HB2 := Lib.hid (below_upto HBW.out hb2 (Nat.le_refl _))
  have hl2 : w.heap.size < w2.heap.size := Nat.lt_of_lt_of_le hl hb2.size
  clear h2 hW1 hb2 r0 r1 rz HBW H1
  go_upto_region 3 with (fail)
  have hn1 : n1 = (packB b).length := e1.symm
  have HN1 := Lib.hid hn1
  have c1n : n1 ≤ 65537 := by omega
  clear hn1 e1 hpk hlb
  have HSE : Hid (∀ g : Up w, Calls Try.prog 44 #[s.c.val, .agg #[.int .i64 0, .int .i64 (13 + (n1 : Int))]] g.world fun e w' => e = .returned (.int .i64 (secs s.c.z (13 + n1) : Nat)) ∧ Below g.world.heap.size g.world w') := fun g => by
    have := sectors_any g.world H.out.ok.ok 0 (13 + n1) (by omega) (by omega)
    rwa [addrV, Int.natCast_add] at this
  refine wp_forget (fun V => (V.cell? ⟨w2.heap.size, 0, none⟩ = some (.int .i64 0) ∧ V.cell? ⟨w2.heap.size, 1, none⟩ = some (.int .i64 (13 + (n1 : Int))) ∧ ∀ j, V.frozen? ⟨w2.heap.size, j, none⟩ = false) ∧ Below w2.heap.size w2 V ∧ w2.heap.size < V.heap.size) ⟨?madea, (Below.refl _ _).alloc (Nat.le_refl _) _, by simp⟩ ?_
  case madea =>
    have b1 := heap_alloc_new w2 (.cells #[.int .i64 0, .int .i64 (13 + (n1 : Int))] 30)
    exact ⟨by rw [cell_of_row _ _ _ _ _ _ b1]; rfl, by rw [cell_of_row _ _ _ _ _ _ b1]; rfl, fun j => frozen_of_row _ _ _ _ _ b1⟩
  rintro w3 ⟨⟨t0, t1, tz⟩, hb3, hl3⟩
  have HB3 := Lib.hid (below_upto HB2.out hb3 (Nat.le_refl _))
  have u0 := (hb3.cell (p := ⟨w.heap.size, 0, none⟩) hl2).trans s0
  have u1 := (hb3.cell (p := ⟨w.heap.size, 1, none⟩) hl2).trans s1
  have uz : ∀ j, w3.frozen? ⟨w.heap.size, j, none⟩ = false := fun j => (hb3.frozen (p := ⟨w.heap.size, j, none⟩) hl2).trans (sz j)
  clear s0 s1 sz hb3
  have HST := Lib.hid (H.out.up HB3.out)
  obtain ⟨q0, q1, q2, q3, q4, q5, q6, q7, q8⟩ := HST.out.bx
  have HSE3 : Hid (∀ g : Up w3, Calls Try.prog 44 #[.agg #[.int .i64 (s.c.sectors : Nat), .int .i64 (s.c.z : Nat), .int .i64 (s.c.journal : Nat), .int .i64 (s.c.seg : Nat), .int .i64 (s.c.page : Nat), .int .i64 (s.c.frames : Nat), .int .i64 (s.c.procs : Nat), .int .i64 (s.c.regions : Nat), .int .i64 (s.c.pages : Nat)], .agg #[.int .i64 0, .int .i64 (13 + (n1 : Int))]] g.world fun e w' => e = .returned (.int .i64 (secs s.c.z (13 + n1) : Nat)) ∧ Below g.world.heap.size g.world w') := fun g => HSE.out ⟨g.world, below_upto HB3.out g.h (Nat.le_refl _)⟩
  have lP3 : P < w3.heap.size := Nat.lt_of_lt_of_le l1 HB3.out.size
  clear HSE
  refine wp_region_up (by kernel_rfl) (by kernel_rfl) ?_
  repeat (go_big_quiet_step (first | (go_at_call 44; exact Calls.up_of (HSE3.out _))))
  refine wpQuiet_nil ?_
  intro V hV
  obtain ⟨g, hg⟩ := hV
  have hb := g.h
  rw [← hg] at hb
  clear hg
  have HBV := Lib.hid (below_upto HB3.out hb (Nat.le_refl _))
  have lw3 : w.heap.size < w3.heap.size := Nat.lt_of_lt_of_le hl2 (by omega)
  have lwV : w.heap.size < V.heap.size := Nat.lt_of_lt_of_le lw3 hb.size
  have v3 := (hb.cell (p := ⟨P, 3, none⟩) lP3).trans q3
  have y0 := (hb.cell (p := ⟨w.heap.size, 0, none⟩) lw3).trans u0
  have y1 := (hb.cell (p := ⟨w.heap.size, 1, none⟩) lw3).trans u1
  have yz : ∀ j, V.frozen? ⟨w.heap.size, j, none⟩ = false := fun j => (hb.frozen (p := ⟨w.heap.size, j, none⟩) lw3).trans (uz j)
  have z0 := yz 0
  have z1 := yz 1
  have hlg : secs s.c.z (13 + n1) ≤ s.c.seg := by have := HLG.out; rwa [putF_length, ← HN1.out] at this
  have hnr := HNR.out
  rw [putF_length, ← HN1.out] at hnr
  clear q0 q1 q2 q3 q4 q5 q6 q7 q8 u0 u1 uz t0 t1 tz HSE3 hb yz
  generalize secs s.c.z (13 + n1) = x at *
  have HNR2 := Lib.hid hnr
  have k1 : ¬ (s.c.seg : Int) < (x : Int) := by omega
  have k2 : ¬ (1048576 : Int) < 13 + (n1 : Int) := by omega
  have k2' : ¬ 1048576 < 13 + n1 := by omega
  have HSTV := Lib.hid (H.out.up HBV.out)
  have HNX := Lib.hid (stNext_any HSTV.out (n := x) (by omega))
  clear hlg hnr
  go_wp2_with fail
  refine HNX.out.mono ?_
  rintro _ V2 ⟨k, u, er, rfl, hx, hb2⟩
  have he : er = 7 ∧ u = 0 := by
    rcases hx with ⟨k0, h1, h2, _⟩ | ⟨_, r, hr, _, hu, he⟩
    · exact absurd h2 (HNR2.out.1 k0 h1)
    · have := hr.un HNR2.out.2
      subst this
      exact ⟨he, hu⟩
  obtain ⟨rfl, rfl⟩ := he
  have HB4 := Lib.hid (below_upto HBV.out hb2 (Nat.le_refl _))
  have x0 := (hb2.cell (p := ⟨w.heap.size, 0, none⟩) lwV).trans y0
  have x1 := (hb2.cell (p := ⟨w.heap.size, 1, none⟩) lwV).trans y1
  have f0 : V2.frozen? ⟨w.heap.size, 0, none⟩ = false := (hb2.frozen (p := ⟨w.heap.size, 0, none⟩) lwV).trans z0
  have f1 : V2.frozen? ⟨w.heap.size, 1, none⟩ = false := (hb2.frozen (p := ⟨w.heap.size, 1, none⟩) lwV).trans z1
  obtain ⟨g0, g1⟩ := box2_set (v0 := .int .i64 0) (v1 := .int .i64 0) x0 x1
  have HG := Lib.hid (And.intro g0 g1)
  clear hb2 y0 y1 z0 z1 g0 g1 hx v3
  go_wp2
  refine bodyPost_ret (results_addr rfl _ _ _ _ _ rfl HG.out.1 HG.out.2) rfl ?_
  exact ⟨rfl, (HB4.out.setCell (p := ⟨w.heap.size, 0, none⟩) (Nat.le_refl _) _).setCell (p := ⟨w.heap.size, 1, none⟩) (Nat.le_refl _) _⟩
end
end Go.Proofs.Ytlmgihnnphmmhaa
namespace Go.Proofs.Ytlmgihnnphmmhaa
open Go.RowKit
set_option linter.unusedVariables false
set_option linter.unusedSimpArgs false

/-- Where the next blob of n sectors lies. -/
def Room (s : StS) (n k u : Nat) : Prop := (s.op = some k ∧ s.us + n ≤ s.c.seg ∧ u = s.us) ∨ ((∀ k0, s.op = some k0 → ¬ s.us + n ≤ s.c.seg) ∧ Fst s.t (some k) ∧ u = 0)
theorem Room.lt {s : StS} {n k u : Nat} (h : Room s n k u) (hk : StOk s) (ht : ∀ k e, s.t.ent k = some e → k < s.t.n) (hn : n ≤ s.c.seg) : k < s.c.segs ∧ u + n ≤ s.c.seg := by
  rcases h with ⟨h1, h2, h3⟩ | ⟨_, h2, h3⟩
  · obtain ⟨v, hv⟩ := hk.opn k h1
    have := ht k _ hv
    rw [hk.tn] at this
    exact ⟨this, by omega⟩
  · have := h2.1
    rw [hk.tn] at this
    exact ⟨this, by omega⟩
theorem NxIs.room {s : StS} {n k u : Nat} {k' : Int} {u' : Nat} {e : Int} (h : NxIs s n k' u' e) (r : Room s n k u) : k' = (k : Int) ∧ u' = u ∧ e = 0 := by
  rcases h with ⟨k0, h1, h2, h3, h4, h5⟩ | ⟨h1, r0, h2, h3, h4, h5⟩
  · rcases r with ⟨r1, r2, r3⟩ | ⟨r1, _⟩
    · rw [h1] at r1
      cases r1
      exact ⟨h3, by omega, h5⟩
    · exact absurd h2 (r1 k0 h1)
  · rcases r with ⟨r1, r2, r3⟩ | ⟨r1, r2, r3⟩
    · exact absurd r2 (h1 k r1)
    · have := h2.un r2
      subst this
      exact ⟨h3, by omega, h5⟩
/-- The table behind Take, if it was called. -/
def takeT (s : StS) (k : Nat) : TbS := if s.op = some k then s.t else (fillT s.t s.op).setE k (1, 0)
/-- The store behind a Put: d' its disk, at segment k, behind u sectors, x of them. -/
def StS.put (s : StS) (d' : DkS) (k u x : Nat) : StS := ⟨s.c, d', (takeT s k).setE k (1, (takeT s k).us k + x), some k, u + x⟩
theorem fillT_n (t : TbS) (o : Option Nat) : (fillT t o).n = t.n := by cases o <;> rfl
theorem takeT_n (s : StS) (k : Nat) : (takeT s k).n = s.t.n := by
  unfold takeT
  split
  · rfl
  · exact fillT_n _ _
theorem fillT_ent {s : StS} (h : StOk s) (j : Nat) : (fillT s.t s.op).ent j = if s.op = some j then (s.t.ent j).map (fun e => (2, e.2)) else s.t.ent j := by
  cases hop : s.op with
  | none => rfl
  | some k0 =>
    show (s.t.setE k0 (2, s.t.us k0)).ent j = _
    unfold TbS.setE
    simp only
    by_cases hj : j = k0
    · subst hj
      obtain ⟨u, hu⟩ := h.opn j hop
      simp [TbS.us, hu]
    · rw [if_neg hj, if_neg (fun e => hj (by cases e; rfl))]
theorem Room.ent {s : StS} {n k u : Nat} (r : Room s n k u) (h : StOk s) (ht : ∀ k e, s.t.ent k = some e → 0 < e.1) (hop : s.op ≠ some k) : (fillT s.t s.op).ent k = none ∧ (∀ j, j < k → (fillT s.t s.op).ent j ≠ none) ∧ k < s.t.n ∧ u = 0 := by
  rcases r with ⟨r1, _⟩ | ⟨_, r2, r3⟩
  · exact absurd r1 hop
  · obtain ⟨h1, h2, h3⟩ := r2
    have hk : s.t.ent k = none := by
      cases hk : s.t.ent k with
      | none => rfl
      | some e =>
        have := ht k e hk
        unfold TbS.st at h2
        rw [hk] at h2
        simp only [Option.getD_some] at h2
        omega
    refine ⟨by rw [fillT_ent h, if_neg hop, hk], fun j hj => ?_, h1, r3⟩
    have hj2 := h3 j hj
    have hj3 : s.t.ent j ≠ none := fun e => hj2 (by unfold TbS.st; rw [e]; rfl)
    rw [fillT_ent h]
    split
    · simpa using hj3
    · exact hj3
theorem Room.take {s : StS} {n k u : Nat} (r : Room s n k u) (h : StOk s) (ht : ∀ k e, s.t.ent k = some e → 0 < e.1) : (takeT s k).ent k = some (1, (takeT s k).us k) ∧ (takeT s k).us k ≤ u := by
  by_cases hop : s.op = some k
  · have e : takeT s k = s.t := if_pos hop
    rw [e]
    obtain ⟨y, hy⟩ := h.opn k hop
    have : s.t.us k = y := by unfold TbS.us; rw [hy]; rfl
    rw [this]
    refine ⟨hy, ?_⟩
    rcases r with ⟨_, _, r3⟩ | ⟨_, r2, _⟩
    · rw [r3]; exact h.uk k y hop hy
    · have h2 := r2.2.1
      unfold TbS.st at h2
      rw [hy] at h2
      simp at h2
  · have e : takeT s k = (fillT s.t s.op).setE k (1, 0) := if_neg hop
    rw [e]
    have : ((fillT s.t s.op).setE k (1, 0)).us k = 0 := by unfold TbS.us TbS.setE; simp
    rw [this]
    exact ⟨by unfold TbS.setE; simp, Nat.zero_le _⟩
theorem StOk.put {s : StS} {n k u : Nat} (h : StOk s) (r : Room s n k u) (ht : ∀ k e, s.t.ent k = some e → 0 < e.1) (hl : u + n ≤ s.c.seg) {d' : DkS} (hS : d'.S = s.d.S) (hz : d'.z = s.d.z) : StOk (s.put d' k u n) := by
  obtain ⟨t1, t2⟩ := r.take h ht
  have hent : ∀ j, (s.put d' k u n).t.ent j = if j = k then some (1, (takeT s k).us k + n) else (takeT s k).ent j := fun j => rfl
  refine ⟨h.ok, hS.trans h.dS, hz.trans h.dz, (takeT_n s k).trans h.tn, fun j hj => ?_, fun j v hj => ?_, hl, (fun e => by cases e), fun j v hj hv => ?_⟩
  · cases hj
    exact ⟨_, by rw [hent, if_pos rfl]⟩
  · rw [hent] at hj
    by_cases hjk : j = k
    · rw [hjk]; rfl
    · rw [if_neg hjk] at hj
      exfalso
      unfold takeT at hj
      split at hj
      · rename_i hop
        have := h.one j v hj
        rw [hop] at this
        cases this
        exact hjk rfl
      · rename_i hop
        have hj' : (fillT s.t s.op).ent j = some (1, v) := by
          unfold TbS.setE at hj
          simpa [hjk] using hj
        rw [fillT_ent h] at hj'
        split at hj'
        · cases he : s.t.ent j with
          | none => rw [he] at hj'; cases hj'
          | some e => rw [he] at hj'; cases hj'
        · rename_i hne
          exact hne (h.one j v hj')
  · cases hj
    rw [hent, if_pos rfl] at hv
    cases hv
    show _ + n ≤ u + n
    omega

/-- The loop of Put at round j. -/
structure PutLp (B : Nat) (P D T M : Nat) (O : Nat → Prop) (s : StS) (w5 : World) (a : Nat) (F : Bytes) (j : Nat) (O' : Nat → Prop) (wr : World) : Prop where
  st : StAt B wr P D T M O' { s with d := s.d.putN a F j }
  oo : ∀ g, O' g → O g ∨ w5.heap.size ≤ g
  off : Off O w5 wr
section
variable {B : Nat} {P D T M : Nat} {O O' : Nat → Prop} {s : StS} {w5 wr w' : World} {a j : Nat} {F : Bytes}
theorem PutLp.start (h : StAt B w5 P D T M O s) : PutLp B P D T M O s w5 a F 0 O w5 := ⟨h, fun g => .inl, Off.refl _ _⟩
theorem PutLp.drew (h : PutLp B P D T M O s w5 a F j O' wr) (n : Nat) : PutLp B P D T M O s w5 a F j O' (wr.drewN n) := ⟨h.st.up (below_drewN (Below.refl _ _) n), h.oo, h.off.drewN n⟩
theorem PutLp.step (h : PutLp B P D T M O s w5 a F j O' wr) {L : Bytes} (hL : L = sec s.d.z F j) (hoff : Off O' wr w') {O'' : Nat → Prop} (hd : DkAt B w' D ((s.d.putN a F j).write (a + j) L) O'') (ho : ∀ g, O'' g → O' g ∨ wr.heap.size ≤ g) : PutLp B P D T M O s w5 a F (j + 1) O'' w' := by
  subst hL
  obtain ⟨l1, l2, l3, l4⟩ := h.st.lts
  obtain ⟨d1, d2, d3, d4, d5⟩ := h.st.dis
  have c : ∀ i, w'.cell? ⟨P, i, none⟩ = wr.cell? ⟨P, i, none⟩ := fun i => hoff.cell (p := ⟨P, i, none⟩) l1 d1
  have hn : ∀ g, ¬ O' g → g < wr.heap.size → ¬ O'' g := fun g hg hl hh => by
    rcases ho g hh with e | e
    · exact hg e
    · omega
  have hs5 := h.off.size
  refine ⟨⟨⟨h.st.bx.up c, (c 9).trans h.st.c9, (c 10).trans h.st.c10, (c 11).trans h.st.c11, (c 12).trans h.st.c12, fun i => (hoff.frozen (p := ⟨P, i, none⟩) l1 d1).trans (h.st.zf i), hd, h.st.tb.off hoff d2 d3, h.st.lo, hn P d1 l1, hn T d2 l2, hn M d3 l3, d4, d5⟩, ?_⟩, fun g hg => ?_, ?_⟩
  · have hk := h.st.ok
    exact ⟨hk.ok, hk.dS, hk.dz, hk.tn, hk.opn, hk.one, hk.usl, hk.us0, hk.uk⟩
  · rcases ho g hg with e | e
    · exact h.oo g e
    · exact .inr (by omega)
  · refine h.off.late hoff fun i hi hO => ?_
    rcases h.oo i hO with e | e
    · exact e
    · omega
/-- A table that is another one now. -/
theorem StM.tab {w : World} (h : StM B w P D T M O s) {t' : TbS} (ho : Off (· = M) w w') (ht : TbAt B w' T M t') : StM B w' P D T M O { s with t := t' } := by
  have l1 := lt_of_cell h.c9
  obtain ⟨d1, d2, d3, d4, d5⟩ := h.dis
  have c : ∀ i, w'.cell? ⟨P, i, none⟩ = w.cell? ⟨P, i, none⟩ := fun i => ho.cell (p := ⟨P, i, none⟩) l1 d5
  exact ⟨h.bx.up c, (c 9).trans h.c9, (c 10).trans h.c10, (c 11).trans h.c11, (c 12).trans h.c12, fun i => (ho.frozen (p := ⟨P, i, none⟩) l1 d5).trans (h.zf i), h.dk.off ho (fun g hg e => d3 (e ▸ hg)), ht, h.lo, d1, d2, d3, d4, d5⟩
/-- A number of the store is laid anew. -/
theorem StM.set1 {w : World} (h : StM B w P D T M O s) {op' : Option Nat} {us' : Nat} {j : Nat} {x : Value} (hj : (j = 11 ∧ x = .int .i64 (kOf op') ∧ us' = s.us) ∨ (j = 12 ∧ x = .int .i64 (us' : Nat) ∧ op' = s.op)) :
    StM B (w.setCell ⟨P, j, none⟩ x) P D T M O { s with op := op', us := us' } ∧ Off (· = P) w (w.setCell ⟨P, j, none⟩ x) := by
  have ho : Off (fun g => g = P) w (w.setCell ⟨P, j, none⟩ x) := (Off.refl (fun g => g = P) w).setCell (p := ⟨P, j, none⟩) rfl _
  obtain ⟨d1, d2, d3, d4, d5⟩ := h.dis
  have cn : ∀ i, i ≠ j → (w.setCell ⟨P, j, none⟩ x).cell? ⟨P, i, none⟩ = w.cell? ⟨P, i, none⟩ := fun i hi => World.cell?_setCell_other _ _ _ _ (fun e => hi (by injection e with e1 e2; exact e2.symm))
  obtain ⟨q0, q1, q2, q3, q4, q5, q6, q7, q8⟩ := h.bx
  have hj' : j = 11 ∨ j = 12 := by rcases hj with ⟨e, _⟩ | ⟨e, _⟩ <;> simp [e]
  refine ⟨⟨⟨(cn 0 (by omega)).trans q0, (cn 1 (by omega)).trans q1, (cn 2 (by omega)).trans q2, (cn 3 (by omega)).trans q3, (cn 4 (by omega)).trans q4, (cn 5 (by omega)).trans q5, (cn 6 (by omega)).trans q6, (cn 7 (by omega)).trans q7, (cn 8 (by omega)).trans q8⟩, (cn 9 (by omega)).trans h.c9, (cn 10 (by omega)).trans h.c10, ?_, ?_, fun i => by rw [World.frozen?_setCell]; exact h.zf i, h.dk.off ho (fun g hg e => d1 (e ▸ hg)), h.tb.off ho (fun e => d4 e.symm) (fun e => d5 e.symm), h.lo, d1, d2, d3, d4, d5⟩, ho⟩
  · rcases hj with ⟨rfl, rfl, rfl⟩ | ⟨rfl, rfl, rfl⟩
    · exact World.cell?_setCell_same _ _ _ h.c11
    · exact (cn 11 (by omega)).trans h.c11
  · rcases hj with ⟨rfl, rfl, rfl⟩ | ⟨rfl, rfl, rfl⟩
    · exact (cn 12 (by omega)).trans h.c12
    · exact World.cell?_setCell_same _ _ _ h.c12
end
end Go.Proofs.Ytlmgihnnphmmhaa
