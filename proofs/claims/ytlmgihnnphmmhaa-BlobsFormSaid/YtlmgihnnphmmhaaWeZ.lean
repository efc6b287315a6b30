/- BlobsForm, walked. -/
import Derived.Test.YtlmgihnnphmmhaaSbZ
import Derived.Test.YtlmgihnnphmmhaaWbZ
import Derived.Test.YtlmgihnnphmmhaaWdZ
namespace Go.Proofs.Ytlmgihnnphmmhaa
open Go.RowKit
set_option linter.unusedVariables false
set_option linter.unusedSimpArgs false

set_option maxRecDepth 100000 in
set_option maxHeartbeats 2000000 in
theorem form_no (w : World) {a0 a1 a2 a3 a4 a5 a6 a7 a8 : Int} (h : ¬ FitsP a0 a1 a2 a3 a4 a5 a6 a7 a8) (u : Value) :
    Calls Try.prog 5 #[cfgI a0 a1 a2 a3 a4 a5 a6 a7 a8, u] w fun e w' => e = .returned (.bool true) ∧ Below w.heap.size w w' := by
  have HK : Hid (∀ w', Calls Try.prog 10 #[] w' fun e w'' => e = .returned (.bool true) ∧ Below w'.heap.size w' w'') := fun w' => known9_any w'
  have HF : Hid (∀ w', Calls Try.prog 11 #[cfgI a0 a1 a2 a3 a4 a5 a6 a7 a8] w' fun e w'' => e = .returned (.bool false) ∧ Below w'.heap.size w' w'') := fun w' => fits_false w' a0 a1 a2 a3 a4 a5 a6 a7 a8 h
  have HMD := Lib.hid (BoxI.made w a0 a1 a2 a3 a4 a5 a6 a7 a8)
  have HB : Hid (Below w.heap.size w (w.alloc (.cells #[.int .i64 a0, .int .i64 a1, .int .i64 a2, .int .i64 a3, .int .i64 a4, .int .i64 a5, .int .i64 a6, .int .i64 a7, .int .i64 a8] 23))) := (Below.refl _ _).alloc (Nat.le_refl _) _
  clear h
  unfold cfgI at *
  go_enter Try.func5, Try.ntmps5
  go_upto_region 1 with (fail)
  refine wp_forget (fun W => BoxI W w.heap.size a0 a1 a2 a3 a4 a5 a6 a7 a8 ∧ Below w.heap.size w W ∧ w.heap.size < W.heap.size) ⟨HMD.out, HB.out, by simp⟩ ?_
  clear HMD HB
  rintro W ⟨⟨q0, q1, q2, q3, q4, q5, q6, q7, q8⟩, hbW, lW⟩
  have HBW := Lib.hid hbW
  clear hbW
  refine wp_upW (W := W) fun g => ?_
  go_wp2_with fail
  refine calls_upW (HK.out _) fun g => ?_
  go_wp2_with fail
  refine calls_upW (HF.out _) fun g => ?_
  have HG : Hid (Below w.heap.size w g.world) := below_upto HBW.out g.h (Nat.le_refl _)
  go_wp2
  go_ret
  exact ⟨rfl, HG.out⟩
/-- What BlobsForm has read of the disk. -/
structure FmAt (B : Nat) (W7 wr : World) (D : Nat) (d : DkS) (O : Nat → Prop) (v : Value) (L : Bytes) : Prop where
  off : Off O W7 wr
  dk : DkAt B wr D d O
  own : OwB W7.heap.size wr v L
theorem FmAt.start {B : Nat} {W7 : World} {D : Nat} {d : DkS} {O : Nat → Prop} (h : DkAt B W7 D d O) : FmAt B W7 W7 D d O (.slice none 0 0) [] := ⟨Off.refl _ _, h, OwB.empty _ _⟩
/-- Behind a Read. -/
theorem FmAt.read {B : Nat} {W7 wr w2 : World} {D : Nat} {d : DkS} {O : Nat → Prop} {v : Value} {L : Bytes} (h : FmAt B W7 wr D d O v L) (hO : ∀ g, O g → g < W7.heap.size) (hd : DkAt B w2 D d O) (ho : Off O wr w2) : FmAt B W7 w2 D d O v L :=
  ⟨h.off.trans ho, hd, h.own.off ho fun k hk hk2 => by have := (h.own.lt k hk).1; have := hO k hk2; omega⟩
theorem FmAt.up {B : Nat} {W7 wr w2 : World} {D : Nat} {d : DkS} {O : Nat → Prop} {v : Value} {L : Bytes} (h : FmAt B W7 wr D d O v L) (hb : Below wr.heap.size wr w2) : FmAt B W7 w2 D d O v L :=
  ⟨h.off.step hb, h.dk.up hb, h.own.up hb⟩
/-- Behind an append. -/
theorem FmAt.app {B : Nat} {W7 wr w2 : World} {D : Nat} {d : DkS} {O : Nat → Prop} {v v' : Value} {L M : Bytes} (h : FmAt B W7 wr D d O v L) (hO : ∀ g, O g → g < W7.heap.size) (ho : OwB W7.heap.size w2 v' M) (hg : wr.grownBy w2 v.ownBlock) : FmAt B W7 w2 D d O v' M :=
  ⟨h.off.late (grown_off hg) (fun i hi e => by have := (h.own.lt i e).1; omega), h.dk.off (grown_off hg) (fun g hg e => by have := (h.own.lt g e).1; have := hO g hg; omega), ho⟩
set_option maxRecDepth 100000 in
set_option maxHeartbeats 8000000 in
theorem form_yes (w : World) {c : Cfg} (hok : c.Ok) (hfs : c.sectors ≤ 3000) (hfz : c.z ≤ 512) {b : BArg} (hb : b.In w) (hn : b.n ≤ maxLen) :
    Calls Try.prog 5 #[c.val, b.v] w fun e w' => e = .returned (.bool true) ∧ Below w.heap.size w w' := by
  have HK : Hid (∀ w', Calls Try.prog 10 #[] w' fun e w'' => e = .returned (.bool true) ∧ Below w'.heap.size w' w'') := fun w' => known9_any w'
  have HF : Hid (∀ w', Calls Try.prog 11 #[c.val] w' fun e w'' => e = .returned (.bool true) ∧ Below w'.heap.size w' w'') := fun w' => fits_true w' hok hfs hfz
  have HBG : Hid (∀ w', Calls Try.prog 12 #[c.val] w' (BgPost (fun _ => false) c w')) := fun w' => begun_any w' hok
  have HSE : Hid (∀ (s : Int) (n : Nat), n ≤ 4194304 → ∀ w', Calls Try.prog 15 #[c.val, addrV s n] w' fun e w'' => e = .returned (.int .i64 (secs c.z n : Nat)) ∧ Below w'.heap.size w' w'') := fun s n hn w' => sectors9_any w' hok s n hn
  have HOK := Lib.hid hok
  have HBI := Lib.hid hb
  have HMD := Lib.hid (BoxC.made w c)
  have HB : Hid (Below w.heap.size w (w.alloc (.cells c.cells 23))) := (Below.refl _ _).alloc (Nat.le_refl _) _
  have hz1 := hok.h1
  have hsg := hok.h3
  unfold maxLen at hn
  clear hok hb
  unfold Cfg.val addrV at HSE
  unfold Cfg.val at HF HBG ⊢
  unfold Cfg.cells at HMD HB
  unfold BArg.v
  go_enter Try.func5, Try.ntmps5
  go_upto_region 1 with (fail)
  refine wp_forget (fun W => BoxC W w.heap.size c ∧ Below w.heap.size w W ∧ w.heap.size < W.heap.size) ⟨HMD.out, HB.out, by simp⟩ ?_
  clear HMD HB
  rintro W ⟨⟨q0, q1, q2, q3, q4, q5, q6, q7, q8⟩, hbW, lW⟩
  have HBW := Lib.hid hbW
  clear hbW
  refine wp_upW (W := W) fun g => ?_
  go_wp2_with fail
  refine calls_upW (HK.out _) fun g => ?_
  go_wp2_with fail
  refine calls_upW (HF.out _) fun g => ?_
  have HG : Hid (Below w.heap.size w g.world) := below_upto HBW.out g.h (Nat.le_refl _)
  clear HK HF
  by_cases hbig : 8192 < b.n
  · have i1 : (b.n : Int) > 8192 := by omega
    go_wp2
    go_ret
    exact ⟨rfl, HG.out⟩
  · have i1 : ¬ (b.n : Int) > 8192 := by omega
    have hn2 : b.n ≤ 8192 := by omega
    clear hn hbig
    go_wp2_with fail
    refine (HBG.out _).mono ?_
    rintro _ w1 ⟨Wb, rfl, hwo⟩
    have HB0 := HG
    have hlg : w.heap.size < g.world.heap.size := Nat.lt_of_lt_of_le lW g.size
    have HBX : Hid (BoxC g.world w.heap.size c) := (show BoxC W w.heap.size c from ⟨q0, q1, q2, q3, q4, q5, q6, q7, q8⟩).up fun j => g.cell (b := w.heap.size) (o := j) lW
    obtain ⟨V, hV⟩ : ∃ V, V = g.world := ⟨_, rfl⟩
    rw [← hV] at hwo HB0 hlg HBX
    have HPU : Hid (Calls Try.prog 17 #[.pointer (some ⟨Wb, 0, none⟩), b.v] w1 (PuPost (fun _ => false) V Wb (wo0 c (fun _ => false)) b)) := put9_any hwo (HBI.out.up HB0.out) (by omega) hfs hfz (Nat.zero_le _) (Nat.zero_le _)
    unfold BArg.v at HPU
    clear hwo q0 q1 q2 q3 q4 q5 q6 q7 q8 HBW HBG HG hV g i1 lW
    go_wp2_with fail
    refine HPU.out.mono ?_
    rintro _ w2 ⟨rfl, x, ⟨D, P, T, M, O, vA, vL, hm, hi⟩, hxc, _, hx⟩
    have hc0 : (wo0 c (fun _ => false)).s.c = c := rfl
    rw [hc0] at hxc
    have HM := Lib.hid hm
    have hlen : x.ad = [] ∨ ∃ a N, x.ad = [(a, N)] ∧ x.bl = [b] := by
      rcases hx with rfl | ⟨k, u, _, _, rfl⟩
      · exact .inl rfl
      · exact .inr ⟨_, _, rfl, rfl⟩
    clear hx HPU
    obtain ⟨Aa, ca, hva⟩ : ∃ Aa ca, vA = .slice Aa x.ad.length ca := by
      rcases hm.rA.2 with ⟨hh, h0⟩ | ⟨g, cap, cur, hh, _⟩
      · exact ⟨_, _, by rw [hh, h0]⟩
      · exact ⟨_, _, hh⟩
    have c11 : w2.cell? ⟨Wb, 11, none⟩ = some (.slice Aa x.ad.length ca) := by rw [hm.c11, hva]
    have lWb := hm.lts.1
    have HBR : Hid (Below w.heap.size w w2) := below_upto HB0.out hm.bel (Nat.le_refl _)
    rcases hlen with h0 | ⟨a, N, h0, h1⟩
    · rw [h0] at c11
      clear hm hi hva h0
      simp only [List.length_nil] at c11
      go_wp2
      go_ret
      exact ⟨rfl, HBR.out⟩
    · obtain ⟨k, hp⟩ := hi.pl 0 a N b (by rw [h0]; rfl) (by rw [h1]; rfl)
      have hof := hi.on
      have hrn := hp.r
      have hN := hp.hN
      obtain ⟨G, cap, hG, hcap, _⟩ := World.ownsRow.form hm.rA (show 0 < x.ad.length by rw [h0]; simp)
      have k0 := World.ownsRow.cells hm.rA (g := G) (by rw [hG]; rfl) (0 * 2) _ (adCells_at _ 0 (a, N) (by rw [h0]; rfl)).1
      have k1 := World.ownsRow.cells hm.rA (g := G) (by rw [hG]; rfl) (0 * 2 + 1) _ (adCells_at _ 0 (a, N) (by rw [h0]; rfl)).2
      have lG := (hm.lts.2.1 G (by rw [hG]; rfl)).2
      rw [addr_plain'] at k0 k1
      simp only [Nat.zero_mul, Nat.zero_add] at k0 k1
      rw [hva] at hG
      injection hG with e1 e2 e3
      subst e1
      rw [h0] at c11
      simp only [List.length_cons, List.length_nil, Nat.zero_add] at c11
      have c9 := hm.c9
      have HDK := Lib.hid hm.st.dk
      have hst := hm.st.ok
      have HOL : Hid (∀ g, O g → V.heap.size ≤ g ∧ g < w2.heap.size) := fun g hg => hm.st.lts.2.2.2 g hg
      have hdW := hm.dW.1
      have hbelV := hm.bel
      have HBV := Lib.hid hbelV
      have HBX2 : Hid (BoxC w2 w.heap.size c) := HBX.out.up fun j => hbelV.cell (p := ⟨w.heap.size, j, none⟩) hlg
      have lw2 : w.heap.size < w2.heap.size := Nat.lt_of_lt_of_le hlg hbelV.size
      have HRD : Hid (∀ i, i < secs c.z N → x.s.d.read (a + i) = sec c.z (padF c.z (putF b.L)) i) := by have h := hp.rd; rw [hxc] at h; exact h
      have HOF := Lib.hid hof
      have HRN : Hid (RightN c a N k) := by rw [← hxc]; exact hrn
      have HNN := Lib.hid hN
      have hnn := hrn.hn
      have HST := Lib.hid hst
      have HXC := Lib.hid hxc
      clear hm hi hva h0 h1 hp hof hrn hN hcap e2 e3 hst hbelV
      go_upto_region 11 with (fail)
      have b1 := heap_alloc_new w2 (.cells #[.int .i64 (a : Nat), .int .i64 (N : Nat)] 30)
      have hal : Below w2.heap.size w2 (w2.alloc (.cells #[.int .i64 (a : Nat), .int .i64 (N : Nat)] 30)) := (Below.refl _ _).alloc (Nat.le_refl _) _
      obtain ⟨B6, hB6⟩ : ∃ B6, B6 = w2.heap.size := ⟨_, rfl⟩
      refine wp_forget (fun W7 => BoxC W7 w.heap.size c ∧ W7.cell? ⟨B6, 0, none⟩ = some (.int .i64 (a : Nat)) ∧ W7.cell? ⟨B6, 1, none⟩ = some (.int .i64 (N : Nat)) ∧ W7.cell? ⟨Wb, 9, none⟩ = some (.pointer (some ⟨D, 0, none⟩)) ∧ DkAt V.heap.size W7 D x.s.d O ∧ Below V.heap.size V W7 ∧ B6 < W7.heap.size ∧ w2.heap.size ≤ W7.heap.size)
        ⟨HBX2.out.up fun j => hal.cell (p := ⟨w.heap.size, j, none⟩) lw2, by rw [hB6, cell_of_row _ _ _ _ _ _ b1]; rfl, by rw [hB6, cell_of_row _ _ _ _ _ _ b1]; rfl, (hal.cell (p := ⟨Wb, 9, none⟩) lWb).trans c9, HDK.out.up hal, below_upto HBV.out hal (Nat.le_refl _), by rw [hB6]; simp, by simp⟩ ?_
      rw [← hB6]
      have HOB : Hid (∀ g, O g → V.heap.size ≤ g ∧ g < B6) := by rw [hB6]; exact HOL.out
      have hWB : Wb < B6 := by rw [hB6]; exact lWb
      have hwB : w.heap.size < B6 := by rw [hB6]; exact lw2
      clear b1 hal k0 k1 lG c9 c11 HDK HBX2 HBX HBV lw2 lWb HBR HOL HM hB6
      rintro W7 ⟨q, t0, t1, c9, hdk, hbV, l6, _⟩
      have HKE : Hid (∀ wr, Off O W7 wr → BoxC wr w.heap.size c ∧ wr.cell? ⟨B6, 0, none⟩ = some (.int .i64 (a : Nat)) ∧ wr.cell? ⟨B6, 1, none⟩ = some (.int .i64 (N : Nat)) ∧ wr.cell? ⟨Wb, 9, none⟩ = some (.pointer (some ⟨D, 0, none⟩)) ∧ Below w.heap.size w wr) := fun wr ho => by
        refine ⟨q.up fun j => ho.cell (p := ⟨w.heap.size, j, none⟩) (by show w.heap.size < _; omega) (fun e => absurd (HOB.out _ e).1 (by show ¬ V.heap.size ≤ w.heap.size; omega)), (ho.cell (p := ⟨B6, 0, none⟩) l6 (fun e => absurd (HOB.out _ e).2 (by show ¬ B6 < B6; omega))).trans t0, (ho.cell (p := ⟨B6, 1, none⟩) l6 (fun e => absurd (HOB.out _ e).2 (by show ¬ B6 < B6; omega))).trans t1, (ho.cell (p := ⟨Wb, 9, none⟩) (by show Wb < _; omega) hdW).trans c9, ?_⟩
        exact below_upto HB0.out (hbV.trans (ho.below (fun g hg => (HOB.out g hg).1) hbV.size)) (Nat.le_refl _)
      have HF0 := Lib.hid (FmAt.start hdk)
      have HOL : Hid (∀ g, O g → g < W7.heap.size) := fun g hg => by have := (HOB.out g hg).2; omega
      have hS0 : a + secs c.z N ≤ c.sectors := by
        have h1 := HRN.out.hi
        have h2 := HRN.out.hk
        have h3 := HOK.out.room.1
        have h4 : (k + 1) * c.seg ≤ c.segs * c.seg := Nat.mul_le_mul_right _ h2
        rw [Nat.add_mul, Nat.one_mul] at h4
        omega
      have HSL := Lib.hid hS0
      obtain ⟨S, hS⟩ : ∃ S, S = secs c.z N := ⟨_, rfl⟩
      have HSD := Lib.hid hS
      rw [← hS] at hS0 HRD
      have HSC : Hid (∀ w', Calls Try.prog 15 #[.agg #[.int .i64 (c.sectors : Nat), .int .i64 (c.z : Nat), .int .i64 (c.journal : Nat), .int .i64 (c.seg : Nat), .int .i64 (c.page : Nat), .int .i64 (c.frames : Nat), .int .i64 (c.procs : Nat), .int .i64 (c.regions : Nat), .int .i64 (c.pages : Nat)], .agg #[.int .i64 (a : Nat), .int .i64 (N : Nat)]] w' fun e w'' => e = .returned (.int .i64 (S : Nat)) ∧ Below w'.heap.size w' w'') := fun w' => by rw [hS]; exact HSE.out a N (by omega) w'
      clear q t0 t1 c9 hdk hbV HSE hS
      obtain ⟨F, hF⟩ : ∃ F, F = padF c.z (putF b.L) := ⟨_, rfl⟩
      rw [← hF] at HRD
      have hFl : F.length = S * c.z := by rw [hF, padF_length _ (by omega), ← HNN.out, ← HSD.out]
      have HFD := Lib.hid hF
      have HFL := Lib.hid hFl
      have h0c := HOK.out.h0
      clear hF hFl
      go_wp2_with fail
      go_loopw [7, 8] (fun v i wr => ∃ (j : Nat) (A7 : Option Addr) (c7 : Nat), j ≤ S ∧ i = .int .i64 (j : Nat) ∧ v = .slice A7 (j * c.z) c7 ∧ FmAt V.heap.size W7 wr D x.s.d O (.slice A7 (j * c.z) c7) (joinN c.z F j)) (fun _ i _ => S - (intOf i).toNat)
      case atStart => exact ⟨0, _, _, Nat.zero_le _, rfl, by rw [Nat.zero_mul], by rw [Nat.zero_mul]; exact HF0.out⟩
      case round =>
        obtain ⟨j, A7, c7, hj, rfl, rfl, hf⟩ := hrel
        clear HF0
        obtain ⟨⟨q0, q1, q2, q3, q4, q5, q6, q7, q8⟩, t0, t1, c9, hbw⟩ := HKE.out _ hf.off
        have lw : w.heap.size < wr.heap.size := Nat.lt_of_lt_of_le (by omega) hf.off.size
        have l6' : B6 < wr.heap.size := Nat.lt_of_lt_of_le l6 hf.off.size
        have HFM := Lib.hid hf
        clear hf
        go_wp2_with fail
        refine (HSC.out _).mono ?_
        rintro _ w3 ⟨rfl, hb3⟩
        have hf3 := HFM.out.up hb3
        have HFM3 := Lib.hid hf3
        obtain ⟨⟨q0, q1, q2, q3, q4, q5, q6, q7, q8⟩, t0, t1, c9, hbw⟩ := HKE.out _ hf3.off
        have l63 : B6 < w3.heap.size := Nat.lt_of_lt_of_le l6 hf3.off.size
        have lW3 : Wb < w3.heap.size := by omega
        clear hb3 hf3 HFM
        by_cases hjS : j < S
        · have i1 : (j : Int) < (S : Int) := by omega
          have i2 : IntKind.i64.wrap ((a : Int) + (j : Int)) = ((a + j : Nat) : Int) := by rw [IntWalk.i64_in _ (by omega)]; omega
          have hans : x.s.d.ans ((a + j : Nat) : Int) = (sec c.z F j, 0) := by
            unfold DkS.ans
            rw [if_neg (by rw [HOF.out]; simp), if_pos ⟨by omega, by rw [HST.out.dS, HXC.out]; omega⟩]
            rw [Int.toNat_natCast, HRD.out j hjS]
          have HAN := Lib.hid hans
          clear hans
          go_upto_region 15 with (fail)
          refine wp_region_up_tail 8 (by kernel_rfl) (by kernel_rfl) (by kernel_rfl) ?_
          simp only [List.take_succ_cons, List.take_zero, List.drop_succ_cons, List.drop_zero]
          repeat (go_big_quiet_step (fail))
          refine wpQuiet_nil ?_
          rintro _ ⟨g, rfl⟩
          have HFG : Hid (FmAt V.heap.size W7 g.world D x.s.d O (.slice A7 (j * c.z) c7) (joinN c.z F j)) := HFM3.out.up g.h
          have HRC : Hid (Calls Try.prog 23 #[.pointer (some ⟨D, 0, none⟩), .int .i64 ((a + j : Nat) : Int)] g.world fun e w' => ∃ A' n' c', e = .returned (.tuple #[.slice A' n' c', .int .i64 0]) ∧ SBy w' A' n' (sec c.z F j) ∧ DkAt V.heap.size w' D x.s.d O ∧ Off O g.world w') := (dkRead_any HFG.out.dk _).mono fun e w' hq => by
            obtain ⟨A', n', c', he, ⟨wx, hfr, _⟩, hd, ho⟩ := hq
            rw [HAN.out] at he hfr
            exact ⟨A', n', c', he, hfr.sby, hd, ho⟩
          clear HFM3 q0 q1 q2 q3 q4 q5 q6 q7 q8 t0 t1 c9
          go_wp2_with fail
          refine HRC.out.mono ?_
          rintro _ w4 ⟨A', n', c', rfl, hsb, hd, ho⟩
          have hf4 := HFG.out.read HOL.out hd ho
          have hjl : (joinN c.z F j).length = j * c.z := by rw [joinN_eq, List.length_take, HFL.out]; exact Nat.min_eq_left (Nat.mul_le_mul_right _ hj)
          have hsl : (sec c.z F j).length = c.z := sec_length HFL.out hjS
          have hn' : n' = c.z := by rw [← hsb.1, hsl]
          have hjz : j * c.z ≤ S * c.z := Nat.mul_le_mul_right _ hj
          have hsz : S * c.z ≤ 3000 * c.z := Nat.mul_le_mul_right _ (by omega)
          have hsuc : j * c.z + c.z = (j + 1) * c.z := by rw [Nat.add_mul, Nat.one_mul]
          have hl7 : W7.heap.size ≤ w4.heap.size := hf4.off.size
          have HF4 := Lib.hid hf4
          have HSB := Lib.hid hsb
          have HOW : Hid (OwB W7.heap.size w4 (.slice A7 (j * c.z) c7) (joinN c.z F j)) := hf4.own
          subst hn'
          clear hf4 hsb hd ho HRC HFG
          go_wp2_with (at_builtin; go_must (refine wpList_app rfl (.tmp 72) (.tmp 73) rfl W7.heap.size (.slice A7 (j * c.z) c7) (joinN c.z F j) (sec c.z F j) rfl HOW.out A' c.z c' rfl HSB.out hl7 (by omega) ((j + 1) * c.z) (by omega) ?_); intro A8 c8 w5 h5 hg5 _)
          have HF5 := Lib.hid (HF4.out.app HOL.out h5 hg5)
          clear h5 hg5 HOW HSB HF4
          go_wp2
          go_roundw
          case rel => exact ⟨j + 1, A8, c8, by omega, by go_num, rfl, HF5.out⟩
          case measure => simp [intOf]; omega
        · have i1 : ¬ (j : Int) < (S : Int) := by omega
          obtain rfl : j = S := by omega
          obtain ⟨m, hm⟩ : ∃ m, m = (packB b.L).length := ⟨_, rfl⟩
          have hNm : N = 13 + m := by rw [HNN.out, putF_length, hm]
          have hbl : b.L.length = b.n := HBI.out.1.1
          have hmle : m ≤ b.n + 1 := by rw [hm, ← hbl]; exact packB_le _
          have hjz : j * c.z ≤ 3000 * c.z := Nat.mul_le_mul_right _ (by omega)
          have hge : N ≤ j * c.z := by rw [HSD.out]; exact secs_ge (by omega)
          have hFe : F = frameB (b8 1) (packB b.L) ++ zeros (j * c.z - N) := by rw [HFD.out]; unfold padF; rw [← HNN.out, ← HSD.out]; rfl
          have hX : SBy w3 A7 (j * c.z) F := by
            have h := HFM3.out.own.part.2.2
            rw [joinN_eq, ← HFL.out, List.take_length] at h
            rw [← HFL.out]
            exact h
          have HX := Lib.hid hX
          have hcap : j * c.z ≤ c7 := HFM3.out.own.part.2.1
          have HRF : Hid (Calls Try.prog 24 #[.slice A7 (j * c.z) c7] w3 fun e w' => ∃ A' c', e = .returned (.tuple #[.int .u8 1, .slice A' m c', .int .i64 (N : Nat), .int .i64 0]) ∧ FrB w3 w' (.slice A' m c') (packB b.L)) := by
            have h := rreadFrame_ok w3 A7 (j * c.z) c7 (b8 1) (packB b.L) (zeros (j * c.z - N)) (by rw [← hFe]; exact hX) hcap (by omega) (by omega)
            rw [← hm, ← hNm] at h
            exact h
          have HZ : Hid (∀ i, N ≤ i → at8 F i = 0) := fun i hi => by
            rw [hFe]
            unfold at8
            rw [List.getD_eq_getElem?_getD, List.getElem?_append_right (by rw [frameB_length]; omega)]
            unfold zeros
            rw [List.getElem?_replicate]
            split <;> rfl
          have HM2 := Lib.hid hm
          have HBW3 := Lib.hid hbw
          clear hX hFe hm hcap HRD HFM3 hbw hNm
          go_wp2_with fail
          refine HRF.out.mono ?_
          rintro _ w6 ⟨A9, c10, rfl, hfr⟩
          have t16 := (hfr.bel.cell (p := ⟨B6, 1, none⟩) l63).trans t1
          have l66 : B6 < w6.heap.size := Nat.lt_of_lt_of_le l63 hfr.bel.size
          have HX6 := Lib.hid (HX.out.up hfr.bel)
          have HBW6 : Hid (Below w.heap.size w w6) := below_upto HBW3.out hfr.bel (Nat.le_refl _)
          have HUN : Hid (Calls Try.prog 25 #[.slice A9 m c10, .int .i64 (b.n : Nat)] w6 (UnOk w6 b.L)) := runpack_ok w6 A9 m c10 (packB b.L) b.n b.L hfr.sby hfr.cap (by omega) (by omega) (packB_unpack (by omega) (by omega))
          clear hfr q0 q1 q2 q3 q4 q5 q6 q7 q8 t0 t1 c9 HRF HX HBW3
          go_wp2_with fail
          refine HUN.out.mono ?_
          rintro _ w8 ⟨A11, c11, lit, rfl, hfr⟩
          rw [hbl] at hfr ⊢
          have HX8 := Lib.hid (HX6.out.up hfr.bel)
          have hb8 : Below w.heap.size w w8 := below_upto HBW6.out hfr.bel (Nat.le_refl _)
          have HB8 := Lib.hid hb8
          have hcv1 : (convert 28 9 (.slice A11 b.n c11)).run Try.prog w8 = .ok (.string (strB b.L)) w8 := hfr.sby.str c11
          have hcv2 : (convert 28 9 (.slice b.A b.n b.c)).run Try.prog w8 = .ok (.string (strB b.L)) w8 := (HBI.out.1.up hb8).str b.c
          have HCV := Lib.hid (And.intro hcv1 hcv2)
          clear hfr hb8 hcv1 hcv2 HUN HX6 HBW6 t16
          go_wp2_with fail
          go_loop [18] (fun v => ∃ i : Nat, N ≤ i ∧ i ≤ j * c.z ∧ v = .int .i64 (i : Nat)) (fun v => j * c.z - (intOf v).toNat)
          case atStart => exact ⟨N, Nat.le_refl _, hge, rfl⟩
          case round =>
            obtain ⟨i, hi1, hi2, rfl⟩ := hrel
            by_cases hlt : i < j * c.z
            · obtain ⟨g9, o9, rfl, hg9, hc9⟩ := HX8.out.2 (by omega)
              have c0 := hc9 i hlt
              rw [HZ.out i hi1] at c0
              have j1 : (i : Int) < ((j * c.z : Nat) : Int) := by omega
              have j2 : (0 : Int) ≤ (i : Int) := by omega
              clear hc9
              go_wp2
              go_round
              case rel => exact ⟨i + 1, by omega, by omega, by go_num⟩
              case measure => simp [intOf]; omega
            · have j1 : ¬ (i : Int) < ((j * c.z : Nat) : Int) := by omega
              obtain ⟨hcv1, hcv2⟩ := HCV.out
              go_wp2
              go_ret
              exact ⟨rfl, HB8.out⟩
end Go.Proofs.Ytlmgihnnphmmhaa
